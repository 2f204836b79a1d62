/- Shallow programs, written by a program of ours (gen.py) off the translation; each is tied to the code by the kernel. -/
import Derived.Test.YtckbgeedlobfaaaDoorY04
set_option linter.unusedVariables false
set_option maxRecDepth 100000
namespace Go.Proofs.YtckbgeedlobfaaaDoor
open Go.Px

/-! ### presage/presageref04.Read -/
namespace ref04_Read
noncomputable def code:Code:=bodyOf Tryd.f13
noncomputable abbrev p1:Code:=dropC 4 code
def b3_1 (R:EP) (x2 x3 v8:Value) (w9:World) (_r:Tok R:=tok R):Prop :=
 RUN Tryd.prog (pan R) (Instr.build 31 #[]) w9 fun v10 w11 =>
 RUNU Tryd.prog (pan R) (Instr.storeAt 28 x2 v8) w11 fun w12 =>
 RUNU Tryd.prog (pan R) (Instr.storeAt 31 x3 v10) w12 fun w13 =>
 LD Tryd.prog (Instr.loadAt 28 x2) w13 fun r0=>LD Tryd.prog (Instr.loadAt 31 x3) w13 fun r1=>R (.returned (.tuple #[r0,r1])) w13
def b3_2 (R:EP) (x2 x3 v1:Value) (w2:World) (_r:Tok R:=tok R):Prop :=
 RUN Tryd.prog (pan R) (Instr.alloc 28 true (.tuple #[])) w2 fun v3 w4 =>
 RUNU Tryd.prog (pan R) (Instr.storeAt 28 v3 v1) w4 fun w5 =>
 RUN Tryd.prog (pan R) (Instr.loadAt 28 v3) w5 fun v6 w7 =>
 CALL Tryd.prog (pan R) ref02_Copy.id #[v6] w7 fun v8 w9 =>
 b3_1 R x2 x3 v8 w9
def b3 (R:EP) (x2 x3 x4:Value) (w:World) (_r:Tok R:=tok R):Prop :=
 CALL Tryd.prog (pan R) ref04_Text_grammar.id #[x4] w fun v1 w2 =>
 b3_2 R x2 x3 v1 w2
abbrev q1 (R:EP):XP:=QX (fun ρ w=>LD Tryd.prog (Instr.loadAt 28 (ρ 2)) w fun r0=>LD Tryd.prog (Instr.loadAt 31 (ρ 3)) w fun r1=>R (.returned (.tuple #[r0,r1])) w) (fun ρ w=>LD Tryd.prog (Instr.loadAt 28 (ρ 2)) w fun r0=>LD Tryd.prog (Instr.loadAt 31 (ρ 3)) w fun r1=>R (.returned (.tuple #[r0,r1])) w) []
theorem b3_eq (R:EP) (ρ:Env) (w:World):(b3 R (ρ 2) (ρ 3) (ρ 4) w)=codeP Tryd.prog (pan R) (sndC p1) (q1 R) ρ w:=by kernel_rfl
theorem b3_ok (R:EP) (ρ:Env) (w:World) (h:b3 R (ρ 2) (ρ 3) (ρ 4) w):codeP Tryd.prog (pan R) (sndC p1) (q1 R) ρ w:=(b3_eq R ρ w).mp h
noncomputable abbrev p2:Code:=dropC 1 (fstC p1)
def b5_1 (R:EP) (x2 x3:Value) (w:World) (_r:Tok R:=tok R):Prop :=
 RUN Tryd.prog (pan R) (Instr.build 28 #[]) w fun v1 w2 =>
 RUN Tryd.prog (pan R) (Instr.build 31 #[(0,(Go.Value.int Go.IntKind.i64 11))]) w2 fun v3 w4 =>
 RUNU Tryd.prog (pan R) (Instr.storeAt 28 x2 v1) w4 fun w5 =>
 RUNU Tryd.prog (pan R) (Instr.storeAt 31 x3 v3) w5 fun w6 =>
 LD Tryd.prog (Instr.loadAt 28 x2) w6 fun r0=>LD Tryd.prog (Instr.loadAt 31 x3) w6 fun r1=>R (.returned (.tuple #[r0,r1])) w6
def b5 (R:EP) (x2 x3 x4 x32:Value) (w:World) (_r:Tok R:=tok R):Prop :=
 SPL x32
 (b5_1 R x2 x3 w)
 (b3 R x2 x3 x4 w)
abbrev q2 (R:EP):XP:=QX (fun ρ w=>b3 R (ρ 2) (ρ 3) (ρ 4) w) (fun ρ w=>LD Tryd.prog (Instr.loadAt 28 (ρ 2)) w fun r0=>LD Tryd.prog (Instr.loadAt 31 (ρ 3)) w fun r1=>R (.returned (.tuple #[r0,r1])) w) []
theorem b5_eq (R:EP) (ρ:Env) (w:World):(b5 R (ρ 2) (ρ 3) (ρ 4) (ρ 32) w)=codeP Tryd.prog (pan R) p2 (q2 R) ρ w:=by kernel_rfl
theorem b5_ok (R:EP) (ρ:Env) (w:World) (h:b5 R (ρ 2) (ρ 3) (ρ 4) (ρ 32) w):codeP Tryd.prog (pan R) p2 (q2 R) ρ w:=(b5_eq R ρ w).mp h
def b4_1 (R:EP) (x2 x3 x4:Value) (w18:World) (_r:Tok R:=tok R):Prop :=
 RUN Tryd.prog (pan R) (Instr.fieldAt 69 x4 4) w18 fun v19 w20 =>
 RUN Tryd.prog (pan R) (Instr.loadAt 67 v19) w20 fun v21 w22 =>
 RUN Tryd.prog (pan R) (Builtin.len_ #[67] 3 #[v21]) w22 fun v23 w24 =>
 RUN Tryd.prog (pan R) (bins .gtr 3 (.tmp 30) (.const (Go.Value.int Go.IntKind.i64 96)) v23 (Go.Value.int Go.IntKind.i64 96)) w24 fun v25 w26 =>
 b5 R x2 x3 x4 v25 w26
def b4 (R:EP) (x2 x3 x4:Value) (w:World) (_r:Tok R:=tok R):Prop :=
 RUN Tryd.prog (pan R) (Instr.fieldAt 69 x4 2) w fun v1 w2 =>
 RUN Tryd.prog (pan R) (Instr.loadAt 23 v1) w2 fun v3 w4 =>
 RUN Tryd.prog (pan R) (Builtin.len_ #[23] 3 #[v3]) w4 fun v5 w6 =>
 RUN Tryd.prog (pan R) (bins .sub 3 (.tmp 20) (.const (Go.Value.int Go.IntKind.i64 1)) v5 (Go.Value.int Go.IntKind.i64 1)) w6 fun v7 w8 =>
 RUN Tryd.prog (pan R) (Instr.fieldAt 69 x4 6) w8 fun v9 w10 =>
 RUN Tryd.prog (pan R) (Instr.loadAt 24 v9) w10 fun v11 w12 =>
 RUN Tryd.prog (pan R) (Builtin.len_ #[24] 3 #[v11]) w12 fun v13 w14 =>
 RUN Tryd.prog (pan R) (bins .add 3 (.tmp 21) (.tmp 24) v7 v13) w14 fun v15 w16 =>
 RUN Tryd.prog (pan R) (bins .gtr 3 (.tmp 25) (.const (Go.Value.int Go.IntKind.i64 64)) v15 (Go.Value.int Go.IntKind.i64 64)) w16 fun v17 w18 =>
 SPL v17
 (b5 R x2 x3 x4 (Go.Value.bool Bool.true) w18)
 (b4_1 R x2 x3 x4 w18)
abbrev q3 (R:EP):XP:=QX (fun ρ w=>b5 R (ρ 2) (ρ 3) (ρ 4) (ρ 32) w) (fun ρ w=>LD Tryd.prog (Instr.loadAt 28 (ρ 2)) w fun r0=>LD Tryd.prog (Instr.loadAt 31 (ρ 3)) w fun r1=>R (.returned (.tuple #[r0,r1])) w) []
theorem b4_eq (R:EP) (ρ:Env) (w:World):(b4 R (ρ 2) (ρ 3) (ρ 4) w)=codeP Tryd.prog (pan R) (preC 0 (fstC p1)) (q3 R) ρ w:=by kernel_rfl
theorem b4_ok (R:EP) (ρ:Env) (w:World) (h:b4 R (ρ 2) (ρ 3) (ρ 4) w):codeP Tryd.prog (pan R) (fstC p1) (q2 R) ρ w:=by
 have e:appC 0 (preC 0 (fstC p1)) (dropC 1 (fstC p1))=(fstC p1):=by kernel_rfl
 rw [←e]
 exact appQ (fun ρ w=>b5 R (ρ 2) (ρ 3) (ρ 4) (ρ 32) w) 0 ((b4_eq R ρ w).mp h) (fun ρ w h=>b5_ok R ρ w h)
theorem k2_ok (R:EP) (ρ:Env) (w:World) (h:b4 R (ρ 2) (ρ 3) (ρ 4) w):codeP Tryd.prog (pan R) p1 (q1 R) ρ w:=by
 have e:Code.seq (fstC p1) (sndC p1)=p1:=by kernel_rfl
 rw [←e]
 exact seqQ (fun ρ w=>b3 R (ρ 2) (ρ 3) (ρ 4) w) (b4_ok R ρ w h) (fun ρ w h=>b3_ok R ρ w h)
def b1_1 (R:EP) (v1 v3 v9:Value) (w15:World) (_r:Tok R:=tok R):Prop :=
 RUN Tryd.prog (pan R) (Instr.build 28 #[]) w15 fun v16 w17 =>
 RUN Tryd.prog (pan R) (Instr.build 31 #[(0,(Go.Value.int Go.IntKind.i64 10)),(1,v9)]) w17 fun v18 w19 =>
 RUNU Tryd.prog (pan R) (Instr.storeAt 28 v1 v16) w19 fun w20 =>
 RUNU Tryd.prog (pan R) (Instr.storeAt 31 v3 v18) w20 fun w21 =>
 LD Tryd.prog (Instr.loadAt 28 v1) w21 fun r0=>LD Tryd.prog (Instr.loadAt 31 v3) w21 fun r1=>R (.returned (.tuple #[r0,r1])) w21
def b1_2 (R:EP) (v1 v3 v5:Value) (w6:World) (_r:Tok R:=tok R):Prop :=
 RUN Tryd.prog (pan R) (Instr.extract v5 0) w6 fun v7 w8 =>
 RUN Tryd.prog (pan R) (Instr.extract v5 1) w8 fun v9 w10 =>
 RUN Tryd.prog (pan R) (Instr.alloc 69 true (.tuple #[])) w10 fun v11 w12 =>
 RUNU Tryd.prog (pan R) (Instr.storeAt 69 v11 v7) w12 fun w13 =>
 RUN Tryd.prog (pan R) (bins .geq 3 (.tmp 12) (.const (Go.Value.int Go.IntKind.i64 0)) v9 (Go.Value.int Go.IntKind.i64 0)) w13 fun v14 w15 =>
 SPL v14
 (b1_1 R v1 v3 v9 w15)
 (CALL Tryd.prog (pan R) ref04_Text_number.id #[v11] w15 fun v22 w23 =>
 b4 R v1 v3 v11 w23)
def b1 (R:EP) (x0:Value) (w:World) (_r:Tok R:=tok R):Prop :=
 RUN Tryd.prog (pan R) (Instr.alloc 28 true (.tuple #[])) w fun v1 w2 =>
 RUN Tryd.prog (pan R) (Instr.alloc 31 true (.tuple #[])) w2 fun v3 w4 =>
 CALL Tryd.prog (pan R) ref04_Take.id #[x0] w4 fun v5 w6 =>
 b1_2 R v1 v3 v5 w6
abbrev q4 (R:EP):XP:=QX (fun ρ w=>b4 R (ρ 2) (ρ 3) (ρ 4) w) (fun ρ w=>LD Tryd.prog (Instr.loadAt 28 (ρ 2)) w fun r0=>LD Tryd.prog (Instr.loadAt 31 (ρ 3)) w fun r1=>R (.returned (.tuple #[r0,r1])) w) []
theorem b1_eq (R:EP) (ρ:Env) (w:World):(b1 R (ρ 0) w)=codeP Tryd.prog (pan R) (preC 3 code) (q4 R) ρ w:=by kernel_rfl
theorem b1_ok (R:EP) (ρ:Env) (w:World) (h:b1 R (ρ 0) w):codeP Tryd.prog (pan R) code (q1 R) ρ w:=by
 have e:appC 3 (preC 3 code) (dropC 4 code)=code:=by kernel_rfl
 rw [←e]
 exact appQ (fun ρ w=>b4 R (ρ 2) (ρ 3) (ρ 4) w) 3 ((b1_eq R ρ w).mp h) (fun ρ w h=>k2_ok R ρ w h)
/-- What is owed for a call. -/
def run (R:EP) (a0:Value) (w:World):Prop:=b1 R a0 w
theorem calls (R:EP) (a0:Value) (w:World) (h:run R a0 w):Calls Tryd.prog id #[a0] w R :=
 calls_of_cc (f:=id) (fn:=Tryd.f13) (c:=code) (by kernel_rfl) Tryd.func13 (by kernel_rfl) (by kernel_rfl) (args:=[a0]) (Nat.le_of_ble_eq_true rfl) rfl (b1_ok R (envOf [a0]) w h)
theorem enters:Enters Tryd.prog id:=fun args w=>Tryd.call13 args w
theorem ct {a0:Value} {w:World} {S:VP} (h:∀R:EP,(∀v w,S v w→R (.returned v) w)→run R a0 w):Ct Tryd.prog id #[a0] w S :=
 Ct.intro enters fun R hR=>calls R a0 w (h R hR)
attribute [irreducible] b3_1 b3_2 b3 b5_1 b5 b4_1 b4 b1_1 b1_2 b1 run
attribute [go_sem] b3_1 b3_2 b3 b5_1 b5 b4_1 b4 b1_1 b1_2 b1 run
end ref04_Read

/-! ### presage/presageref04.Bad -/
namespace ref04_Bad
noncomputable def code:Code:=bodyOf Tryd.f16
def b1_1 (R:EP) (v1:Value) (w2:World) (_r:Tok R:=tok R):Prop :=
 RUN Tryd.prog (pan R) (Instr.extract v1 0) w2 fun v3 w4 =>
 RUN Tryd.prog (pan R) (Instr.extract v1 1) w4 fun v5 w6 =>
 RUN Tryd.prog (pan R) (Instr.alloc 69 true (.tuple #[])) w6 fun v7 w8 =>
 RUNU Tryd.prog (pan R) (Instr.storeAt 69 v7 v3) w8 fun w9 =>
 R (.returned v5) w9
def b1 (R:EP) (x0:Value) (w:World) (_r:Tok R:=tok R):Prop :=
 CALL Tryd.prog (pan R) ref04_Take.id #[x0] w fun v1 w2 =>
 b1_1 R v1 w2
abbrev q1 (R:EP):XP:=QX (fun ρ w=>R (.returned (ρ 2)) w) (fun ρ w=>R (.returned (ρ 2)) w) []
theorem b1_eq (R:EP) (ρ:Env) (w:World):(b1 R (ρ 0) w)=codeP Tryd.prog (pan R) code (q1 R) ρ w:=by kernel_rfl
theorem b1_ok (R:EP) (ρ:Env) (w:World) (h:b1 R (ρ 0) w):codeP Tryd.prog (pan R) code (q1 R) ρ w:=(b1_eq R ρ w).mp h
/-- What is owed for a call. -/
def run (R:EP) (a0:Value) (w:World):Prop:=b1 R a0 w
theorem calls (R:EP) (a0:Value) (w:World) (h:run R a0 w):Calls Tryd.prog id #[a0] w R :=
 calls_of_t (f:=id) (fn:=Tryd.f16) (c:=code) (by kernel_rfl) Tryd.func16 (by kernel_rfl) (by kernel_rfl) (args:=[a0]) (Nat.le_of_ble_eq_true rfl) rfl (b1_ok R (envOf [a0]) w h)
theorem enters:Enters Tryd.prog id:=fun args w=>Tryd.call16 args w
theorem ct {a0:Value} {w:World} {S:VP} (h:∀R:EP,(∀v w,S v w→R (.returned v) w)→run R a0 w):Ct Tryd.prog id #[a0] w S :=
 Ct.intro enters fun R hR=>calls R a0 w (h R hR)
attribute [irreducible] b1_1 b1 run
attribute [go_sem] b1_1 b1 run
end ref04_Bad

/-! ### presage/presageref04.Take -/
namespace ref04_Take
noncomputable def code:Code:=bodyOf Tryd.f30
noncomputable abbrev p1:Code:=dropC 3 code
noncomputable abbrev p2:Code:=dropC 2 (sndC p1)
def b5 (R:EP) (x2 x4:Value) (w:World) (_r:Tok R:=tok R):Prop :=
 RUN Tryd.prog (pan R) (Instr.loadAt 69 x4) w fun v1 w2 =>
 RUNU Tryd.prog (pan R) (Instr.storeAt 69 x2 v1) w2 fun w3 =>
 LD Tryd.prog (Instr.loadAt 69 x2) w3 fun r0=>R (.returned (.tuple #[r0,(Go.Value.int Go.IntKind.i64 (-1))])) w3
abbrev q1 (R:EP):XP:=QX (fun ρ w=>LD Tryd.prog (Instr.loadAt 69 (ρ 2)) w fun r0=>R (.returned (.tuple #[r0,(ρ 3)])) w) (fun ρ w=>LD Tryd.prog (Instr.loadAt 69 (ρ 2)) w fun r0=>R (.returned (.tuple #[r0,(ρ 3)])) w) []
theorem b5_eq (R:EP) (ρ:Env) (w:World):(b5 R (ρ 2) (ρ 4) w)=codeP Tryd.prog (pan R) (sndC p2) (q1 R) ρ w:=by kernel_rfl
theorem b5_ok (R:EP) (ρ:Env) (w:World) (h:b5 R (ρ 2) (ρ 4) w):codeP Tryd.prog (pan R) (sndC p2) (q1 R) ρ w:=(b5_eq R ρ w).mp h
noncomputable abbrev p3:Code:=dropC 1 (fstC p2)
def b7_1 (R:EP) (x0 x2 x4:Value) (w:World) (_r:Tok R:=tok R):Prop :=
 RUN Tryd.prog (pan R) (Instr.loadAt 69 x4) w fun v1 w2 =>
 RUN Tryd.prog (pan R) (Builtin.len_ #[9] 3 #[x0]) w2 fun v3 w4 =>
 RUNU Tryd.prog (pan R) (Instr.storeAt 69 x2 v1) w4 fun w5 =>
 LD Tryd.prog (Instr.loadAt 69 x2) w5 fun r0=>R (.returned (.tuple #[r0,v3])) w5
def b7 (R:EP) (x0 x2 x4 x57:Value) (w:World) (_r:Tok R:=tok R):Prop :=
 SPL x57
 (b7_1 R x0 x2 x4 w)
 (b5 R x2 x4 w)
abbrev q2 (R:EP):XP:=QX (fun ρ w=>b5 R (ρ 2) (ρ 4) w) (fun ρ w=>LD Tryd.prog (Instr.loadAt 69 (ρ 2)) w fun r0=>R (.returned (.tuple #[r0,(ρ 3)])) w) []
theorem b7_eq (R:EP) (ρ:Env) (w:World):(b7 R (ρ 0) (ρ 2) (ρ 4) (ρ 57) w)=codeP Tryd.prog (pan R) p3 (q2 R) ρ w:=by kernel_rfl
theorem b7_ok (R:EP) (ρ:Env) (w:World) (h:b7 R (ρ 0) (ρ 2) (ρ 4) (ρ 57) w):codeP Tryd.prog (pan R) p3 (q2 R) ρ w:=(b7_eq R ρ w).mp h
def b6_1 (R:EP) (x0 x2 x4 x9:Value) (w6:World) (_r:Tok R:=tok R):Prop :=
 RUN Tryd.prog (pan R) (Instr.fieldAt 69 x4 7) w6 fun v7 w8 =>
 RUN Tryd.prog (pan R) (Instr.loadAt 9 v7) w8 fun v9 w10 =>
 RUN Tryd.prog (pan R) (bins .neq 9 (.tmp 51) (.const (Go.Value.string {data:=#[] })) v9 (Go.Value.string {data:=#[] })) w10 fun v11 w12 =>
 SPL v11
 (RUN Tryd.prog (pan R) (Op.unary .not x9) w12 fun v13 w14 =>
 b7 R x0 x2 x4 v13 w14)
 (b7 R x0 x2 x4 (Go.Value.bool Bool.false) w12)
def b6 (R:EP) (x0 x2 x4 x9:Value) (w:World) (_r:Tok R:=tok R):Prop :=
 RUN Tryd.prog (pan R) (Instr.fieldAt 69 x4 0) w fun v1 w2 =>
 RUN Tryd.prog (pan R) (Instr.loadAt 3 v1) w2 fun v3 w4 =>
 RUN Tryd.prog (pan R) (bins .neq 3 (.tmp 47) (.const (Go.Value.int Go.IntKind.i64 9)) v3 (Go.Value.int Go.IntKind.i64 9)) w4 fun v5 w6 =>
 SPL v5
 (b7 R x0 x2 x4 (Go.Value.bool Bool.true) w6)
 (b6_1 R x0 x2 x4 x9 w6)
abbrev q3 (R:EP):XP:=QX (fun ρ w=>b7 R (ρ 0) (ρ 2) (ρ 4) (ρ 57) w) (fun ρ w=>LD Tryd.prog (Instr.loadAt 69 (ρ 2)) w fun r0=>R (.returned (.tuple #[r0,(ρ 3)])) w) []
theorem b6_eq (R:EP) (ρ:Env) (w:World):(b6 R (ρ 0) (ρ 2) (ρ 4) (ρ 9) w)=codeP Tryd.prog (pan R) (preC 0 (fstC p2)) (q3 R) ρ w:=by kernel_rfl
theorem b6_ok (R:EP) (ρ:Env) (w:World) (h:b6 R (ρ 0) (ρ 2) (ρ 4) (ρ 9) w):codeP Tryd.prog (pan R) (fstC p2) (q2 R) ρ w:=by
 have e:appC 0 (preC 0 (fstC p2)) (dropC 1 (fstC p2))=(fstC p2):=by kernel_rfl
 rw [←e]
 exact appQ (fun ρ w=>b7 R (ρ 0) (ρ 2) (ρ 4) (ρ 57) w) 0 ((b6_eq R ρ w).mp h) (fun ρ w h=>b7_ok R ρ w h)
theorem k4_ok (R:EP) (ρ:Env) (w:World) (h:b6 R (ρ 0) (ρ 2) (ρ 4) (ρ 9) w):codeP Tryd.prog (pan R) p2 (q1 R) ρ w:=by
 have e:Code.seq (fstC p2) (sndC p2)=p2:=by kernel_rfl
 rw [←e]
 exact seqQ (fun ρ w=>b5 R (ρ 2) (ρ 4) w) (b6_ok R ρ w h) (fun ρ w h=>b5_ok R ρ w h)
def b3_1 (R:EP) (x2 x4 x6:Value) (w2:World) (_r:Tok R:=tok R):Prop :=
 RUN Tryd.prog (pan R) (Instr.loadAt 69 x4) w2 fun v3 w4 =>
 RUNU Tryd.prog (pan R) (Instr.storeAt 69 x2 v3) w4 fun w5 =>
 LD Tryd.prog (Instr.loadAt 69 x2) w5 fun r0=>R (.returned (.tuple #[r0,x6])) w5
def b3_2 (R:EP) (x0 x2 x4:Value) (w2:World) (_r:Tok R:=tok R):Prop :=
 RUN Tryd.prog (pan R) (Instr.fieldAt 69 x4 6) w2 fun v6 w7 =>
 RUN Tryd.prog (pan R) (Instr.loadAt 24 v6) w7 fun v8 w9 =>
 RUN Tryd.prog (pan R) (Instr.fieldAt 69 x4 7) w9 fun v10 w11 =>
 RUN Tryd.prog (pan R) (Instr.loadAt 9 v10) w11 fun v12 w13 =>
 CALL Tryd.prog (pan R) ref04_has.id #[v8,v12] w13 fun v14 w15 =>
 b6 R x0 x2 x4 v14 w15
def b3 (R:EP) (x0 x2 x4 x6:Value) (w:World) (_r:Tok R:=tok R):Prop :=
 RUN Tryd.prog (pan R) (bins .geq 3 (.tmp 37) (.const (Go.Value.int Go.IntKind.i64 0)) x6 (Go.Value.int Go.IntKind.i64 0)) w fun v1 w2 =>
 SPL v1
 (b3_1 R x2 x4 x6 w2)
 (b3_2 R x0 x2 x4 w2)
abbrev q4 (R:EP):XP:=QX (fun ρ w=>b6 R (ρ 0) (ρ 2) (ρ 4) (ρ 9) w) (fun ρ w=>LD Tryd.prog (Instr.loadAt 69 (ρ 2)) w fun r0=>R (.returned (.tuple #[r0,(ρ 3)])) w) []
theorem b3_eq (R:EP) (ρ:Env) (w:World):(b3 R (ρ 0) (ρ 2) (ρ 4) (ρ 6) w)=codeP Tryd.prog (pan R) (preC 1 (sndC p1)) (q4 R) ρ w:=by kernel_rfl
theorem b3_ok (R:EP) (ρ:Env) (w:World) (h:b3 R (ρ 0) (ρ 2) (ρ 4) (ρ 6) w):codeP Tryd.prog (pan R) (sndC p1) (q1 R) ρ w:=by
 have e:appC 1 (preC 1 (sndC p1)) (dropC 2 (sndC p1))=(sndC p1):=by kernel_rfl
 rw [←e]
 exact appQ (fun ρ w=>b6 R (ρ 0) (ρ 2) (ρ 4) (ρ 9) w) 1 ((b3_eq R ρ w).mp h) (fun ρ w h=>k4_ok R ρ w h)
noncomputable abbrev p4:Code:=dropC 1 (fstC p1)
noncomputable abbrev p5:Code:=loopC (blkC p4)
def b11_1 (R:EP) (x2 x4 x5 x7:Value) (w12:World) (_r:Tok R:=tok R):Prop :=
 LD Tryd.prog (Instr.loadAt 69 x4) (World.drew w12) fun v13 =>
 PUR Tryd.prog (Instr.indexAt 41 x5 x7) fun v14 =>
 PUR Tryd.prog (Instr.fieldAt 46 v14 2) fun v15 =>
 LD Tryd.prog (Instr.loadAt 3 v15) (World.drew w12) fun v16 =>
 RUNU Tryd.prog (pan R) (Instr.storeAt 69 x2 v13) (World.drew w12) fun w17 =>
 Sem.run Tryd.prog (Instr.loadAt 3 v15) w17 = .ok v16 w17∧(LD Tryd.prog (Instr.loadAt 69 x2) w17 fun r0=>R (.returned (.tuple #[r0,v16])) w17)
def b11_2 (R:EP) (C10:VP) (x2 x4 x5 x7 v9:Value) (w10:World) (_r:Tok R:=tok R) (_C10:Tok C10:=tok C10):Prop :=
 RUN Tryd.prog (pan R) (Op.unary .not v9) w10 fun v11 w12 =>
 SPL v11
 (b11_1 R x2 x4 x5 x7 w12)
 (RUN Tryd.prog (pan R) (bins .add 3 (.tmp 22) (.const (Go.Value.int Go.IntKind.i64 1)) x7 (Go.Value.int Go.IntKind.i64 1)) w12 fun v18 w19 =>
 C10 v18 w19)
def b11_3 (R:EP) (C10:VP) (x2 x4 x5 x7:Value) (w4:World) (_r:Tok R:=tok R) (_C10:Tok C10:=tok C10):Prop :=
 RUN Tryd.prog (pan R) (Instr.indexAt 41 x5 x7) w4 fun v5 w6 =>
 RUN Tryd.prog (pan R) (Instr.loadAt 46 v5) w6 fun v7 w8 =>
 CALL Tryd.prog (pan R) ref04_Text_word.id #[x4,v7] w8 fun v9 w10 =>
 b11_2 R C10 x2 x4 x5 x7 v9 w10
def b11 (R:EP) (C10:VP) (x0 x2 x4 x5 x6 x7:Value) (w:World) (_r:Tok R:=tok R) (_C10:Tok C10:=tok C10):Prop :=
 RUN Tryd.prog (pan R) (Builtin.len_ #[41] 3 #[x5]) w fun v1 w2 =>
 RUN Tryd.prog (pan R) (bins .lss 3 (.tmp 18) (.tmp 20) x7 v1) w2 fun v3 w4 =>
 SPL v3
 (b11_3 R C10 x2 x4 x5 x7 w4)
 (b3 R x0 x2 x4 x6 w4)
abbrev q5 (R:EP) (C10:VP):XP:=QX (fun ρ w=>C10 (ρ 7) w) (fun ρ w=>LD Tryd.prog (Instr.loadAt 69 (ρ 2)) w fun r0=>R (.returned (.tuple #[r0,(ρ 3)])) w) [(0,(fun ρ w=>b3 R (ρ 0) (ρ 2) (ρ 4) (ρ 6) w))]
theorem b11_eq (R:EP) (C10:VP) (ρ:Env) (w:World):(b11 R C10 (ρ 0) (ρ 2) (ρ 4) (ρ 5) (ρ 6) (ρ 7) w)=codeP Tryd.prog (pan R) p5 (q5 R C10) ρ w:=by kernel_rfl
theorem b11_ok (R:EP) (C10:VP) (ρ:Env) (w:World) (h:b11 R C10 (ρ 0) (ρ 2) (ρ 4) (ρ 5) (ρ 6) (ρ 7) w):codeP Tryd.prog (pan R) p5 (q5 R C10) ρ w:=(b11_eq R C10 ρ w).mp h
def l10 (R:EP) (x0 x2 x4 x5 x6 x7:Value) (w:World) (_r:Tok R:=tok R):Prop :=
 ∃(J:VP) (μ:Value→World→Nat),J x7 w∧∀y7 w0,J y7 w0→b11 R (fun z7 w1=>J z7 w1∧μ z7 w1<μ y7 w0) x0 x2 x4 x5 x6 y7 w0
abbrev q6 (R:EP):XP:=QX (fun ρ w=>b3 R (ρ 0) (ρ 2) (ρ 4) (ρ 6) w) (fun ρ w=>LD Tryd.prog (Instr.loadAt 69 (ρ 2)) w fun r0=>R (.returned (.tuple #[r0,(ρ 3)])) w) [(0,(fun ρ w=>b3 R (ρ 0) (ρ 2) (ρ 4) (ρ 6) w))]
theorem l10_ok (R:EP) (ρ:Env) (w:World) (h:l10 R (ρ 0) (ρ 2) (ρ 4) (ρ 5) (ρ 6) (ρ 7) w):codeP Tryd.prog (pan R) (blkC p4) (q6 R) ρ w:=by
 unfold l10 at h
 obtain ⟨J,μ,h0,hr⟩:=h
 have e:Code.loop (loopC (blkC p4))=(blkC p4):=by kernel_rfl
 rw [←e]
 refine loopQ (fun ρ' w'=>J (ρ' 7) w') (fun ρ' w'=>μ (ρ' 7) w') h0 fun ρ' w' hA hI=>?_
 have e0:ρ' 0=ρ 0:=Agree.at hA 0 (by kernel_rfl)
 have e2:ρ' 2=ρ 2:=Agree.at hA 2 (by kernel_rfl)
 have e4:ρ' 4=ρ 4:=Agree.at hA 4 (by kernel_rfl)
 have e5:ρ' 5=ρ 5:=Agree.at hA 5 (by kernel_rfl)
 have e6:ρ' 6=ρ 6:=Agree.at hA 6 (by kernel_rfl)
 have h1:=hr (ρ' 7) w' hI
 rw [←e0,←e2,←e4,←e5,←e6] at h1
 exact b11_ok R (fun z7 w1=>J z7 w1∧μ z7 w1<μ (ρ' 7) w') ρ' w' h1
theorem l10_intro (R:EP) (x0 x2 x4 x5 x6 x7:Value) (w:World) (J:VP) (μ:Value→World→Nat) (h0:J x7 w)
  (hr:∀y7 w0,J y7 w0→∀C10:VP,(∀z7 w1,J z7 w1→μ z7 w1<μ y7 w0→C10 z7 w1)→b11 R C10 x0 x2 x4 x5 x6 y7 w0):l10 R x0 x2 x4 x5 x6 x7 w:=by
 unfold l10
 exact ⟨J,μ,h0,fun y7 w0 hJ=>hr y7 w0 hJ _ (fun z7 w1 h1 h2=>⟨h1,h2⟩)⟩
abbrev q7 (R:EP):XP:=QX (fun ρ w=>b3 R (ρ 0) (ρ 2) (ρ 4) (ρ 6) w) (fun ρ w=>LD Tryd.prog (Instr.loadAt 69 (ρ 2)) w fun r0=>R (.returned (.tuple #[r0,(ρ 3)])) w) []
theorem k9_ok (R:EP) (ρ:Env) (w:World) (h:l10 R (ρ 0) (ρ 2) (ρ 4) (ρ 5) (ρ 6) (ρ 7) w):codeP Tryd.prog (pan R) p4 (q7 R) ρ w:=by
 have e:Code.block 0 (blkC p4)=p4:=by kernel_rfl
 rw [←e]
 exact blockQ (l10_ok R ρ w h)
def b8 (R:EP) (x0 x2 x4 x5 x6:Value) (w:World) (_r:Tok R:=tok R):Prop :=
 l10 R x0 x2 x4 x5 x6 (Go.Value.int Go.IntKind.i64 0) w
abbrev q8 (R:EP):XP:=QX (fun ρ w=>l10 R (ρ 0) (ρ 2) (ρ 4) (ρ 5) (ρ 6) (ρ 7) w) (fun ρ w=>LD Tryd.prog (Instr.loadAt 69 (ρ 2)) w fun r0=>R (.returned (.tuple #[r0,(ρ 3)])) w) []
theorem b8_eq (R:EP) (ρ:Env) (w:World):(b8 R (ρ 0) (ρ 2) (ρ 4) (ρ 5) (ρ 6) w)=codeP Tryd.prog (pan R) (preC 0 (fstC p1)) (q8 R) ρ w:=by kernel_rfl
theorem b8_ok (R:EP) (ρ:Env) (w:World) (h:b8 R (ρ 0) (ρ 2) (ρ 4) (ρ 5) (ρ 6) w):codeP Tryd.prog (pan R) (fstC p1) (q7 R) ρ w:=by
 have e:appC 0 (preC 0 (fstC p1)) (dropC 1 (fstC p1))=(fstC p1):=by kernel_rfl
 rw [←e]
 exact appQ (fun ρ w=>l10 R (ρ 0) (ρ 2) (ρ 4) (ρ 5) (ρ 6) (ρ 7) w) 0 ((b8_eq R ρ w).mp h) (fun ρ w h=>k9_ok R ρ w h)
theorem k2_ok (R:EP) (ρ:Env) (w:World) (h:b8 R (ρ 0) (ρ 2) (ρ 4) (ρ 5) (ρ 6) w):codeP Tryd.prog (pan R) p1 (q1 R) ρ w:=by
 have e:Code.seq (fstC p1) (sndC p1)=p1:=by kernel_rfl
 rw [←e]
 exact seqQ (fun ρ w=>b3 R (ρ 0) (ρ 2) (ρ 4) (ρ 6) w) (b8_ok R ρ w h) (fun ρ w h=>b3_ok R ρ w h)
def b1_1 (R:EP) (x0 v1 v9 v12:Value) (w13:World) (_r:Tok R:=tok R):Prop :=
 RUN Tryd.prog (pan R) (Instr.extract v12 0) w13 fun v14 w15 =>
 RUN Tryd.prog (pan R) (Instr.extract v12 1) w15 fun v16 w17 =>
 b8 R x0 v1 v9 v14 v16 w17
def b1 (R:EP) (x0:Value) (w:World) (_r:Tok R:=tok R):Prop :=
 RUN Tryd.prog (pan R) (Instr.alloc 69 true (.tuple #[])) w fun v1 w2 =>
 RUN Tryd.prog (pan R) (Instr.build 39 #[]) w2 fun v3 w4 =>
 RUN Tryd.prog (pan R) (Instr.buildSlice 23 1 #[(0,v3)]) w4 fun v5 w6 =>
 RUN Tryd.prog (pan R) (Instr.build 69 #[(2,v5)]) w6 fun v7 w8 =>
 RUN Tryd.prog (pan R) (Instr.alloc 69 true (.tuple #[])) w8 fun v9 w10 =>
 RUNU Tryd.prog (pan R) (Instr.storeAt 69 v9 v7) w10 fun w11 =>
 CALL Tryd.prog (pan R) ref03_All.id #[x0] w11 fun v12 w13 =>
 b1_1 R x0 v1 v9 v12 w13
abbrev q9 (R:EP):XP:=QX (fun ρ w=>b8 R (ρ 0) (ρ 2) (ρ 4) (ρ 5) (ρ 6) w) (fun ρ w=>LD Tryd.prog (Instr.loadAt 69 (ρ 2)) w fun r0=>R (.returned (.tuple #[r0,(ρ 3)])) w) []
theorem b1_eq (R:EP) (ρ:Env) (w:World):(b1 R (ρ 0) w)=codeP Tryd.prog (pan R) (preC 2 code) (q9 R) ρ w:=by kernel_rfl
theorem b1_ok (R:EP) (ρ:Env) (w:World) (h:b1 R (ρ 0) w):codeP Tryd.prog (pan R) code (q1 R) ρ w:=by
 have e:appC 2 (preC 2 code) (dropC 3 code)=code:=by kernel_rfl
 rw [←e]
 exact appQ (fun ρ w=>b8 R (ρ 0) (ρ 2) (ρ 4) (ρ 5) (ρ 6) w) 2 ((b1_eq R ρ w).mp h) (fun ρ w h=>k2_ok R ρ w h)
/-- What is owed for a call. -/
def run (R:EP) (a0:Value) (w:World):Prop:=b1 R a0 w
theorem calls (R:EP) (a0:Value) (w:World) (h:run R a0 w):Calls Tryd.prog id #[a0] w R :=
 calls_of_ct (f:=id) (fn:=Tryd.f30) (c:=code) (by kernel_rfl) Tryd.func30 (by kernel_rfl) (by kernel_rfl) (args:=[a0]) (Nat.le_of_ble_eq_true rfl) rfl (b1_ok R (envOf [a0]) w h)
theorem enters:Enters Tryd.prog id:=fun args w=>Tryd.call30 args w
theorem ct {a0:Value} {w:World} {S:VP} (h:∀R:EP,(∀v w,S v w→R (.returned v) w)→run R a0 w):Ct Tryd.prog id #[a0] w S :=
 Ct.intro enters fun R hR=>calls R a0 w (h R hR)
attribute [irreducible] b5 b7_1 b7 b6_1 b6 b3_1 b3_2 b3 b11_1 b11_2 b11_3 b11 l10 b8 b1_1 b1 run
attribute [go_sem] b5 b7_1 b7 b6_1 b6 b3_1 b3_2 b3 b11_1 b11_2 b11_3 b11 b8 b1_1 b1 run
end ref04_Take

/-! ### (*presage/presageref04.Text).number -/
namespace ref04_Text_number
noncomputable def code:Code:=bodyOf Tryd.f31
noncomputable abbrev p1:Code:=dropC 1 code
noncomputable abbrev p2:Code:=loopC (blkC p1)
noncomputable abbrev p3:Code:=dropC 1 p2

def b6 (R:EP) (C3:VP) (x2:Value) (w:World) (_r:Tok R:=tok R) (_C3:Tok C3:=tok C3):Prop :=
 RUN Tryd.prog (pan R) (bins .add 3 (.tmp 16) (.const (Go.Value.int Go.IntKind.i64 1)) x2 (Go.Value.int Go.IntKind.i64 1)) w fun v1 w2 =>
 C3 v1 w2
abbrev q1 (R:EP) (C3:VP):XP:=QX (fun ρ w=>C3 (ρ 2) w) (fun ρ w=>R (.returned (.tuple #[])) w) [(0,(fun ρ w=>R (.returned (.tuple #[])) w))]
theorem b6_eq (R:EP) (C3:VP) (ρ:Env) (w:World):(b6 R C3 (ρ 2) w)=codeP Tryd.prog (pan R) (sndC p3) (q1 R C3) ρ w:=by kernel_rfl
theorem b6_ok (R:EP) (C3:VP) (ρ:Env) (w:World) (h:b6 R C3 (ρ 2) w):codeP Tryd.prog (pan R) (sndC p3) (q1 R C3) ρ w:=(b6_eq R C3 ρ w).mp h
noncomputable abbrev p4:Code:=blkC (fstC p3)
noncomputable abbrev p5:Code:=dropC 2 p4
noncomputable abbrev p6:Code:=dropC 1 (sndC p5)
noncomputable abbrev p7:Code:=dropC 1 p6
noncomputable abbrev p8:Code:=loopC (blkC p7)
noncomputable abbrev p9:Code:=dropC 2 p8

def b15 (R:EP) (C3:VP) (C13:VP) (x7:Value) (w:World) (_r:Tok R:=tok R) (_C3:Tok C3:=tok C3) (_C13:Tok C13:=tok C13):Prop :=
 RUN Tryd.prog (pan R) (bins .add 3 (.tmp 62) (.const (Go.Value.int Go.IntKind.i64 1)) x7 (Go.Value.int Go.IntKind.i64 1)) w fun v1 w2 =>
 C13 v1 w2
abbrev q2 (R:EP) (C3:VP) (C13:VP):XP:=QX (fun ρ w=>C13 (ρ 7) w) (fun ρ w=>R (.returned (.tuple #[])) w) [(8,(fun ρ w=>b6 R C3 (ρ 2) w)),(2,(fun ρ w=>b6 R C3 (ρ 2) w)),(0,(fun ρ w=>R (.returned (.tuple #[])) w))]
theorem b15_eq (R:EP) (C3:VP) (C13:VP) (ρ:Env) (w:World):(b15 R C3 C13 (ρ 7) w)=codeP Tryd.prog (pan R) p9 (q2 R C3 C13) ρ w:=by kernel_rfl
theorem b15_ok (R:EP) (C3:VP) (C13:VP) (ρ:Env) (w:World) (h:b15 R C3 C13 (ρ 7) w):codeP Tryd.prog (pan R) p9 (q2 R C3 C13) ρ w:=(b15_eq R C3 C13 ρ w).mp h
def b14_1 (R:EP) (C3:VP) (C13:VP) (x0 x4 x7:Value) (w12:World) (_r:Tok R:=tok R) (_C3:Tok C3:=tok C3) (_C13:Tok C13:=tok C13):Prop :=
 NILC x0 fun v13 =>
 PUR Tryd.prog (Instr.fieldAt 69 v13 2) fun v14 =>
 LD Tryd.prog (Instr.loadAt 23 v14) (World.drew w12) fun v15 =>
 PUR Tryd.prog (Instr.indexAt 24 x4 x7) fun v16 =>
 LD Tryd.prog (Instr.loadAt 9 v16) (World.drew w12) fun v17 =>
 PUR Tryd.prog (Instr.build 39 #[(0,v17)]) fun v18 =>
 RUN Tryd.prog (pan R) (Instr.buildSlice 23 1 #[(0,v18)]) (World.drew w12) fun v19 w20 =>
 Sem.run Tryd.prog (Instr.loadAt 23 v14) w20 = .ok v15 w20∧(RUN Tryd.prog (pan R) (Builtin.append_ #[23,23] 23 #[v15,v19]) w20 fun v21 w22 =>
 NILC x0 fun v23 =>
 PUR Tryd.prog (Instr.fieldAt 69 v23 2) fun v24 =>
 RUNU Tryd.prog (pan R) (Instr.storeAt 23 v24 v21) w22 fun w25 =>
 b15 R C3 C13 x7 w25)
def b14_2 (R:EP) (C3:VP) (C13:VP) (x0 x4 x7:Value) (w4:World) (_r:Tok R:=tok R) (_C3:Tok C3:=tok C3) (_C13:Tok C13:=tok C13):Prop :=
 RUN Tryd.prog (pan R) (Instr.indexAt 24 x4 x7) w4 fun v5 w6 =>
 RUN Tryd.prog (pan R) (Instr.loadAt 9 v5) w6 fun v7 w8 =>
 CALL Tryd.prog (pan R) ref04_Text_term.id #[x0,v7] w8 fun v9 w10 =>
 RUN Tryd.prog (pan R) (bins .lss 3 (.tmp 70) (.const (Go.Value.int Go.IntKind.i64 0)) v9 (Go.Value.int Go.IntKind.i64 0)) w10 fun v11 w12 =>
 SPL v11
 (b14_1 R C3 C13 x0 x4 x7 w12)
 (b15 R C3 C13 x7 w12)

def b14 (R:EP) (C3:VP) (C13:VP) (x0 x2 x4 x7:Value) (w:World) (_r:Tok R:=tok R) (_C3:Tok C3:=tok C3) (_C13:Tok C13:=tok C13):Prop :=
 RUN Tryd.prog (pan R) (Builtin.len_ #[24] 3 #[x4]) w fun v1 w2 =>
 RUN Tryd.prog (pan R) (bins .lss 3 (.tmp 58) (.tmp 60) x7 v1) w2 fun v3 w4 =>
 SPL v3
 (b14_2 R C3 C13 x0 x4 x7 w4)
 (b6 R C3 x2 w4)
abbrev q3 (R:EP) (C3:VP) (C13:VP):XP:=QX (fun ρ w=>b15 R C3 C13 (ρ 7) w) (fun ρ w=>R (.returned (.tuple #[])) w) [(8,(fun ρ w=>b6 R C3 (ρ 2) w)),(2,(fun ρ w=>b6 R C3 (ρ 2) w)),(0,(fun ρ w=>R (.returned (.tuple #[])) w))]
theorem b14_eq (R:EP) (C3:VP) (C13:VP) (ρ:Env) (w:World):(b14 R C3 C13 (ρ 0) (ρ 2) (ρ 4) (ρ 7) w)=codeP Tryd.prog (pan R) (preC 1 p8) (q3 R C3 C13) ρ w:=by kernel_rfl
theorem b14_ok (R:EP) (C3:VP) (C13:VP) (ρ:Env) (w:World) (h:b14 R C3 C13 (ρ 0) (ρ 2) (ρ 4) (ρ 7) w):codeP Tryd.prog (pan R) p8 (q2 R C3 C13) ρ w:=by
 have e:appC 1 (preC 1 p8) (dropC 2 p8)=p8:=by kernel_rfl
 rw [←e]
 exact appQ (fun ρ w=>b15 R C3 C13 (ρ 7) w) 1 ((b14_eq R C3 C13 ρ w).mp h) (fun ρ w h=>b15_ok R C3 C13 ρ w h)

def l13 (R:EP) (C3:VP) (x0 x2 x4 x7:Value) (w:World) (_r:Tok R:=tok R) (_C3:Tok C3:=tok C3):Prop :=
 ∃(J:VP) (μ:Value→World→Nat),J x7 w∧∀y7 w0,J y7 w0→b14 R C3 (fun z7 w1=>J z7 w1∧μ z7 w1<μ y7 w0) x0 x2 x4 y7 w0
abbrev q4 (R:EP) (C3:VP):XP:=QX (fun ρ w=>b6 R C3 (ρ 2) w) (fun ρ w=>R (.returned (.tuple #[])) w) [(8,(fun ρ w=>b6 R C3 (ρ 2) w)),(2,(fun ρ w=>b6 R C3 (ρ 2) w)),(0,(fun ρ w=>R (.returned (.tuple #[])) w))]
theorem l13_ok (R:EP) (C3:VP) (ρ:Env) (w:World) (h:l13 R C3 (ρ 0) (ρ 2) (ρ 4) (ρ 7) w):codeP Tryd.prog (pan R) (blkC p7) (q4 R C3) ρ w:=by
 unfold l13 at h
 obtain ⟨J,μ,h0,hr⟩:=h
 have e:Code.loop (loopC (blkC p7))=(blkC p7):=by kernel_rfl
 rw [←e]
 refine loopQ (fun ρ' w'=>J (ρ' 7) w') (fun ρ' w'=>μ (ρ' 7) w') h0 fun ρ' w' hA hI=>?_
 have e0:ρ' 0=ρ 0:=Agree.at hA 0 (by kernel_rfl)
 have e2:ρ' 2=ρ 2:=Agree.at hA 2 (by kernel_rfl)
 have e4:ρ' 4=ρ 4:=Agree.at hA 4 (by kernel_rfl)
 have h1:=hr (ρ' 7) w' hI
 rw [←e0,←e2,←e4] at h1
 exact b14_ok R C3 (fun z7 w1=>J z7 w1∧μ z7 w1<μ (ρ' 7) w') ρ' w' h1
theorem l13_intro (R:EP) (C3:VP) (x0 x2 x4 x7:Value) (w:World) (J:VP) (μ:Value→World→Nat) (h0:J x7 w)
  (hr:∀y7 w0,J y7 w0→∀C13:VP,(∀z7 w1,J z7 w1→μ z7 w1<μ y7 w0→C13 z7 w1)→b14 R C3 C13 x0 x2 x4 y7 w0):l13 R C3 x0 x2 x4 x7 w:=by
 unfold l13
 exact ⟨J,μ,h0,fun y7 w0 hJ=>hr y7 w0 hJ _ (fun z7 w1 h1 h2=>⟨h1,h2⟩)⟩
abbrev q5 (R:EP) (C3:VP):XP:=QX (fun ρ w=>b6 R C3 (ρ 2) w) (fun ρ w=>R (.returned (.tuple #[])) w) [(2,(fun ρ w=>b6 R C3 (ρ 2) w)),(0,(fun ρ w=>R (.returned (.tuple #[])) w))]
theorem k12_ok (R:EP) (C3:VP) (ρ:Env) (w:World) (h:l13 R C3 (ρ 0) (ρ 2) (ρ 4) (ρ 7) w):codeP Tryd.prog (pan R) p7 (q5 R C3) ρ w:=by
 have e:Code.block 4 (blkC p7)=p7:=by kernel_rfl
 rw [←e]
 exact blockQ (l13_ok R C3 ρ w h)

def b11 (R:EP) (C3:VP) (x0 x2 x4:Value) (w:World) (_r:Tok R:=tok R) (_C3:Tok C3:=tok C3):Prop :=
 l13 R C3 x0 x2 x4 (Go.Value.int Go.IntKind.i64 0) w
abbrev q6 (R:EP) (C3:VP):XP:=QX (fun ρ w=>l13 R C3 (ρ 0) (ρ 2) (ρ 4) (ρ 7) w) (fun ρ w=>R (.returned (.tuple #[])) w) [(2,(fun ρ w=>b6 R C3 (ρ 2) w)),(0,(fun ρ w=>R (.returned (.tuple #[])) w))]
theorem b11_eq (R:EP) (C3:VP) (ρ:Env) (w:World):(b11 R C3 (ρ 0) (ρ 2) (ρ 4) w)=codeP Tryd.prog (pan R) (preC 0 p6) (q6 R C3) ρ w:=by kernel_rfl
theorem b11_ok (R:EP) (C3:VP) (ρ:Env) (w:World) (h:b11 R C3 (ρ 0) (ρ 2) (ρ 4) w):codeP Tryd.prog (pan R) p6 (q5 R C3) ρ w:=by
 have e:appC 0 (preC 0 p6) (dropC 1 p6)=p6:=by kernel_rfl
 rw [←e]
 exact appQ (fun ρ w=>l13 R C3 (ρ 0) (ρ 2) (ρ 4) (ρ 7) w) 0 ((b11_eq R C3 ρ w).mp h) (fun ρ w h=>k12_ok R C3 ρ w h)
def b10_1 (R:EP) (C3:VP) (x0 x2 x3 x4:Value) (w6:World) (_r:Tok R:=tok R) (_C3:Tok C3:=tok C3):Prop :=
 RUN Tryd.prog (pan R) (Instr.fieldAt 124 x3 3) w6 fun v7 w8 =>
 RUN Tryd.prog (pan R) (Instr.loadAt 9 v7) w8 fun v9 w10 =>
 RUN Tryd.prog (pan R) (Instr.buildSlice 24 1 #[(0,v9)]) w10 fun v11 w12 =>
 RUN Tryd.prog (pan R) (Builtin.append_ #[24,24] 24 #[x4,v11]) w12 fun v13 w14 =>
 b11 R C3 x0 x2 v13 w14

def b10 (R:EP) (C3:VP) (x0 x2 x3 x4:Value) (w:World) (_r:Tok R:=tok R) (_C3:Tok C3:=tok C3):Prop :=
 RUN Tryd.prog (pan R) (Instr.fieldAt 124 x3 2) w fun v1 w2 =>
 RUN Tryd.prog (pan R) (Instr.loadAt 3 v1) w2 fun v3 w4 =>
 RUN Tryd.prog (pan R) (bins .eql 3 (.tmp 51) (.const (Go.Value.int Go.IntKind.i64 1)) v3 (Go.Value.int Go.IntKind.i64 1)) w4 fun v5 w6 =>
 SPL v5
 (b10_1 R C3 x0 x2 x3 x4 w6)
 (b11 R C3 x0 x2 x4 w6)
abbrev q7 (R:EP) (C3:VP):XP:=QX (fun ρ w=>b11 R C3 (ρ 0) (ρ 2) (ρ 4) w) (fun ρ w=>R (.returned (.tuple #[])) w) [(2,(fun ρ w=>b6 R C3 (ρ 2) w)),(0,(fun ρ w=>R (.returned (.tuple #[])) w))]
theorem b10_eq (R:EP) (C3:VP) (ρ:Env) (w:World):(b10 R C3 (ρ 0) (ρ 2) (ρ 3) (ρ 4) w)=codeP Tryd.prog (pan R) (preC 0 (sndC p5)) (q7 R C3) ρ w:=by kernel_rfl
theorem b10_ok (R:EP) (C3:VP) (ρ:Env) (w:World) (h:b10 R C3 (ρ 0) (ρ 2) (ρ 3) (ρ 4) w):codeP Tryd.prog (pan R) (sndC p5) (q5 R C3) ρ w:=by
 have e:appC 0 (preC 0 (sndC p5)) (dropC 1 (sndC p5))=(sndC p5):=by kernel_rfl
 rw [←e]
 exact appQ (fun ρ w=>b11 R C3 (ρ 0) (ρ 2) (ρ 4) w) 0 ((b10_eq R C3 ρ w).mp h) (fun ρ w h=>b11_ok R C3 ρ w h)
noncomputable abbrev p10:Code:=dropC 1 (fstC p5)
noncomputable abbrev p11:Code:=loopC (blkC p10)
noncomputable abbrev p12:Code:=dropC 2 p11

def b20 (R:EP) (C3:VP) (C18:Value→VP) (x4 x5:Value) (w:World) (_r:Tok R:=tok R) (_C3:Tok C3:=tok C3) (_C18:Tok C18:=tok C18):Prop :=
 RUN Tryd.prog (pan R) (bins .add 3 (.tmp 30) (.const (Go.Value.int Go.IntKind.i64 1)) x5 (Go.Value.int Go.IntKind.i64 1)) w fun v1 w2 =>
 C18 x4 v1 w2
abbrev q8 (R:EP) (C3:VP) (C18:Value→VP):XP:=QX (fun ρ w=>C18 (ρ 4) (ρ 5) w) (fun ρ w=>R (.returned (.tuple #[])) w) [(4,(fun ρ w=>b10 R C3 (ρ 0) (ρ 2) (ρ 3) (ρ 4) w)),(2,(fun ρ w=>b6 R C3 (ρ 2) w)),(0,(fun ρ w=>R (.returned (.tuple #[])) w))]
theorem b20_eq (R:EP) (C3:VP) (C18:Value→VP) (ρ:Env) (w:World):(b20 R C3 C18 (ρ 4) (ρ 5) w)=codeP Tryd.prog (pan R) p12 (q8 R C3 C18) ρ w:=by kernel_rfl
theorem b20_ok (R:EP) (C3:VP) (C18:Value→VP) (ρ:Env) (w:World) (h:b20 R C3 C18 (ρ 4) (ρ 5) w):codeP Tryd.prog (pan R) p12 (q8 R C3 C18) ρ w:=(b20_eq R C3 C18 ρ w).mp h
def b19_1 (R:EP) (C3:VP) (C18:Value→VP) (x3 x4 x5:Value) (w20:World) (_r:Tok R:=tok R) (_C3:Tok C3:=tok C3) (_C18:Tok C18:=tok C18):Prop :=
 RUN Tryd.prog (pan R) (Instr.fieldAt 124 x3 1) w20 fun v21 w22 =>
 RUN Tryd.prog (pan R) (Instr.loadAt 41 v21) w22 fun v23 w24 =>
 RUN Tryd.prog (pan R) (Instr.indexAt 41 v23 x5) w24 fun v25 w26 =>
 RUN Tryd.prog (pan R) (Instr.fieldAt 46 v25 1) w26 fun v27 w28 =>
 RUN Tryd.prog (pan R) (Instr.loadAt 9 v27) w28 fun v29 w30 =>
 RUN Tryd.prog (pan R) (Instr.buildSlice 24 1 #[(0,v29)]) w30 fun v31 w32 =>
 RUN Tryd.prog (pan R) (Builtin.append_ #[24,24] 24 #[x4,v31]) w32 fun v33 w34 =>
 b20 R C3 C18 v33 x5 w34
def b19_2 (R:EP) (C3:VP) (C18:Value→VP) (x0 x3 x4 x5:Value) (w8:World) (_r:Tok R:=tok R) (_C3:Tok C3:=tok C3) (_C18:Tok C18:=tok C18):Prop :=
 RUN Tryd.prog (pan R) (Instr.fieldAt 124 x3 1) w8 fun v9 w10 =>
 RUN Tryd.prog (pan R) (Instr.loadAt 41 v9) w10 fun v11 w12 =>
 RUN Tryd.prog (pan R) (Instr.indexAt 41 v11 x5) w12 fun v13 w14 =>
 RUN Tryd.prog (pan R) (Instr.loadAt 46 v13) w14 fun v15 w16 =>
 CALL Tryd.prog (pan R) ref04_Text_isNon.id #[x0,v15] w16 fun v17 w18 =>
 RUN Tryd.prog (pan R) (Op.unary .not v17) w18 fun v19 w20 =>
 SPL v19
 (b19_1 R C3 C18 x3 x4 x5 w20)
 (b20 R C3 C18 x4 x5 w20)

def b19 (R:EP) (C3:VP) (C18:Value→VP) (x0 x2 x3 x4 x5:Value) (w:World) (_r:Tok R:=tok R) (_C3:Tok C3:=tok C3) (_C18:Tok C18:=tok C18):Prop :=
 RUN Tryd.prog (pan R) (Instr.fieldAt 124 x3 1) w fun v1 w2 =>
 RUN Tryd.prog (pan R) (Instr.loadAt 41 v1) w2 fun v3 w4 =>
 RUN Tryd.prog (pan R) (Builtin.len_ #[41] 3 #[v3]) w4 fun v5 w6 =>
 RUN Tryd.prog (pan R) (bins .lss 3 (.tmp 25) (.tmp 28) x5 v5) w6 fun v7 w8 =>
 SPL v7
 (b19_2 R C3 C18 x0 x3 x4 x5 w8)
 (b10 R C3 x0 x2 x3 x4 w8)
abbrev q9 (R:EP) (C3:VP) (C18:Value→VP):XP:=QX (fun ρ w=>b20 R C3 C18 (ρ 4) (ρ 5) w) (fun ρ w=>R (.returned (.tuple #[])) w) [(4,(fun ρ w=>b10 R C3 (ρ 0) (ρ 2) (ρ 3) (ρ 4) w)),(2,(fun ρ w=>b6 R C3 (ρ 2) w)),(0,(fun ρ w=>R (.returned (.tuple #[])) w))]
theorem b19_eq (R:EP) (C3:VP) (C18:Value→VP) (ρ:Env) (w:World):(b19 R C3 C18 (ρ 0) (ρ 2) (ρ 3) (ρ 4) (ρ 5) w)=codeP Tryd.prog (pan R) (preC 1 p11) (q9 R C3 C18) ρ w:=by kernel_rfl
theorem b19_ok (R:EP) (C3:VP) (C18:Value→VP) (ρ:Env) (w:World) (h:b19 R C3 C18 (ρ 0) (ρ 2) (ρ 3) (ρ 4) (ρ 5) w):codeP Tryd.prog (pan R) p11 (q8 R C3 C18) ρ w:=by
 have e:appC 1 (preC 1 p11) (dropC 2 p11)=p11:=by kernel_rfl
 rw [←e]
 exact appQ (fun ρ w=>b20 R C3 C18 (ρ 4) (ρ 5) w) 1 ((b19_eq R C3 C18 ρ w).mp h) (fun ρ w h=>b20_ok R C3 C18 ρ w h)

def l18 (R:EP) (C3:VP) (x0 x2 x3 x4 x5:Value) (w:World) (_r:Tok R:=tok R) (_C3:Tok C3:=tok C3):Prop :=
 ∃(J:Value→VP) (μ:Value→Value→World→Nat),J x4 x5 w∧∀y4 y5 w0,J y4 y5 w0→b19 R C3 (fun z4 z5 w1=>J z4 z5 w1∧μ z4 z5 w1<μ y4 y5 w0) x0 x2 x3 y4 y5 w0
abbrev q10 (R:EP) (C3:VP):XP:=QX (fun ρ w=>b10 R C3 (ρ 0) (ρ 2) (ρ 3) (ρ 4) w) (fun ρ w=>R (.returned (.tuple #[])) w) [(4,(fun ρ w=>b10 R C3 (ρ 0) (ρ 2) (ρ 3) (ρ 4) w)),(2,(fun ρ w=>b6 R C3 (ρ 2) w)),(0,(fun ρ w=>R (.returned (.tuple #[])) w))]
theorem l18_ok (R:EP) (C3:VP) (ρ:Env) (w:World) (h:l18 R C3 (ρ 0) (ρ 2) (ρ 3) (ρ 4) (ρ 5) w):codeP Tryd.prog (pan R) (blkC p10) (q10 R C3) ρ w:=by
 unfold l18 at h
 obtain ⟨J,μ,h0,hr⟩:=h
 have e:Code.loop (loopC (blkC p10))=(blkC p10):=by kernel_rfl
 rw [←e]
 refine loopQ (fun ρ' w'=>J (ρ' 4) (ρ' 5) w') (fun ρ' w'=>μ (ρ' 4) (ρ' 5) w') h0 fun ρ' w' hA hI=>?_
 have e0:ρ' 0=ρ 0:=Agree.at hA 0 (by kernel_rfl)
 have e2:ρ' 2=ρ 2:=Agree.at hA 2 (by kernel_rfl)
 have e3:ρ' 3=ρ 3:=Agree.at hA 3 (by kernel_rfl)
 have h1:=hr (ρ' 4) (ρ' 5) w' hI
 rw [←e0,←e2,←e3] at h1
 exact b19_ok R C3 (fun z4 z5 w1=>J z4 z5 w1∧μ z4 z5 w1<μ (ρ' 4) (ρ' 5) w') ρ' w' h1
theorem l18_intro (R:EP) (C3:VP) (x0 x2 x3 x4 x5:Value) (w:World) (J:Value→VP) (μ:Value→Value→World→Nat) (h0:J x4 x5 w)
  (hr:∀y4 y5 w0,J y4 y5 w0→∀C18:Value→VP,(∀z4 z5 w1,J z4 z5 w1→μ z4 z5 w1<μ y4 y5 w0→C18 z4 z5 w1)→b19 R C3 C18 x0 x2 x3 y4 y5 w0):l18 R C3 x0 x2 x3 x4 x5 w:=by
 unfold l18
 exact ⟨J,μ,h0,fun y4 y5 w0 hJ=>hr y4 y5 w0 hJ _ (fun z4 z5 w1 h1 h2=>⟨h1,h2⟩)⟩
abbrev q11 (R:EP) (C3:VP):XP:=QX (fun ρ w=>b10 R C3 (ρ 0) (ρ 2) (ρ 3) (ρ 4) w) (fun ρ w=>R (.returned (.tuple #[])) w) [(2,(fun ρ w=>b6 R C3 (ρ 2) w)),(0,(fun ρ w=>R (.returned (.tuple #[])) w))]
theorem k17_ok (R:EP) (C3:VP) (ρ:Env) (w:World) (h:l18 R C3 (ρ 0) (ρ 2) (ρ 3) (ρ 4) (ρ 5) w):codeP Tryd.prog (pan R) p10 (q11 R C3) ρ w:=by
 have e:Code.block 2 (blkC p10)=p10:=by kernel_rfl
 rw [←e]
 exact blockQ (l18_ok R C3 ρ w h)

def b16 (R:EP) (C3:VP) (x0 x2 x3 x4:Value) (w:World) (_r:Tok R:=tok R) (_C3:Tok C3:=tok C3):Prop :=
 l18 R C3 x0 x2 x3 x4 (Go.Value.int Go.IntKind.i64 0) w
abbrev q12 (R:EP) (C3:VP):XP:=QX (fun ρ w=>l18 R C3 (ρ 0) (ρ 2) (ρ 3) (ρ 4) (ρ 5) w) (fun ρ w=>R (.returned (.tuple #[])) w) [(2,(fun ρ w=>b6 R C3 (ρ 2) w)),(0,(fun ρ w=>R (.returned (.tuple #[])) w))]
theorem b16_eq (R:EP) (C3:VP) (ρ:Env) (w:World):(b16 R C3 (ρ 0) (ρ 2) (ρ 3) (ρ 4) w)=codeP Tryd.prog (pan R) (preC 0 (fstC p5)) (q12 R C3) ρ w:=by kernel_rfl
theorem b16_ok (R:EP) (C3:VP) (ρ:Env) (w:World) (h:b16 R C3 (ρ 0) (ρ 2) (ρ 3) (ρ 4) w):codeP Tryd.prog (pan R) (fstC p5) (q11 R C3) ρ w:=by
 have e:appC 0 (preC 0 (fstC p5)) (dropC 1 (fstC p5))=(fstC p5):=by kernel_rfl
 rw [←e]
 exact appQ (fun ρ w=>l18 R C3 (ρ 0) (ρ 2) (ρ 3) (ρ 4) (ρ 5) w) 0 ((b16_eq R C3 ρ w).mp h) (fun ρ w h=>k17_ok R C3 ρ w h)
theorem k9_ok (R:EP) (C3:VP) (ρ:Env) (w:World) (h:b16 R C3 (ρ 0) (ρ 2) (ρ 3) (ρ 4) w):codeP Tryd.prog (pan R) p5 (q5 R C3) ρ w:=by
 have e:Code.seq (fstC p5) (sndC p5)=p5:=by kernel_rfl
 rw [←e]
 exact seqQ (fun ρ w=>b10 R C3 (ρ 0) (ρ 2) (ρ 3) (ρ 4) w) (b16_ok R C3 ρ w h) (fun ρ w h=>b10_ok R C3 ρ w h)

def b8 (R:EP) (C3:VP) (x0 x2:Value) (w:World) (_r:Tok R:=tok R) (_C3:Tok C3:=tok C3):Prop :=
 NILC x0 fun v1 =>
 RUN Tryd.prog (pan R) (Instr.fieldAt 69 v1 4) w fun v2 w3 =>
 RUN Tryd.prog (pan R) (Instr.loadAt 67 v2) w3 fun v4 w5 =>
 RUN Tryd.prog (pan R) (Instr.indexAt 67 v4 x2) w5 fun v6 w7 =>
 RUN Tryd.prog (pan R) (Instr.loadAt 124 v6) w7 fun v8 w9 =>
 RUN Tryd.prog (pan R) (Instr.alloc 124 true (.tuple #[])) w9 fun v10 w11 =>
 RUNU Tryd.prog (pan R) (Instr.storeAt 124 v10 v8) w11 fun w12 =>
 b16 R C3 x0 x2 v10 (Go.Value.slice Option.none 0 0) w12
abbrev q13 (R:EP) (C3:VP):XP:=QX (fun ρ w=>b16 R C3 (ρ 0) (ρ 2) (ρ 3) (ρ 4) w) (fun ρ w=>R (.returned (.tuple #[])) w) [(2,(fun ρ w=>b6 R C3 (ρ 2) w)),(0,(fun ρ w=>R (.returned (.tuple #[])) w))]
theorem b8_eq (R:EP) (C3:VP) (ρ:Env) (w:World):(b8 R C3 (ρ 0) (ρ 2) w)=codeP Tryd.prog (pan R) (preC 1 p4) (q13 R C3) ρ w:=by kernel_rfl
theorem b8_ok (R:EP) (C3:VP) (ρ:Env) (w:World) (h:b8 R C3 (ρ 0) (ρ 2) w):codeP Tryd.prog (pan R) p4 (q5 R C3) ρ w:=by
 have e:appC 1 (preC 1 p4) (dropC 2 p4)=p4:=by kernel_rfl
 rw [←e]
 exact appQ (fun ρ w=>b16 R C3 (ρ 0) (ρ 2) (ρ 3) (ρ 4) w) 1 ((b8_eq R C3 ρ w).mp h) (fun ρ w h=>k9_ok R C3 ρ w h)
abbrev q14 (R:EP) (C3:VP):XP:=QX (fun ρ w=>b6 R C3 (ρ 2) w) (fun ρ w=>R (.returned (.tuple #[])) w) [(0,(fun ρ w=>R (.returned (.tuple #[])) w))]
theorem k7_ok (R:EP) (C3:VP) (ρ:Env) (w:World) (h:b8 R C3 (ρ 0) (ρ 2) w):codeP Tryd.prog (pan R) (fstC p3) (q14 R C3) ρ w:=by
 have e:Code.block 1 (blkC (fstC p3))=(fstC p3):=by kernel_rfl
 rw [←e]
 exact blockQ (b8_ok R C3 ρ w h)
theorem k5_ok (R:EP) (C3:VP) (ρ:Env) (w:World) (h:b8 R C3 (ρ 0) (ρ 2) w):codeP Tryd.prog (pan R) p3 (q1 R C3) ρ w:=by
 have e:Code.seq (fstC p3) (sndC p3)=p3:=by kernel_rfl
 rw [←e]
 exact seqQ (fun ρ w=>b6 R C3 (ρ 2) w) (k7_ok R C3 ρ w h) (fun ρ w h=>b6_ok R C3 ρ w h)

def b4 (R:EP) (C3:VP) (x0 x2:Value) (w:World) (_r:Tok R:=tok R) (_C3:Tok C3:=tok C3):Prop :=
 NILC x0 fun v1 =>
 RUN Tryd.prog (pan R) (Instr.fieldAt 69 v1 4) w fun v2 w3 =>
 RUN Tryd.prog (pan R) (Instr.loadAt 67 v2) w3 fun v4 w5 =>
 RUN Tryd.prog (pan R) (Builtin.len_ #[67] 3 #[v4]) w5 fun v6 w7 =>
 RUN Tryd.prog (pan R) (bins .lss 3 (.tmp 9) (.tmp 14) x2 v6) w7 fun v8 w9 =>
 SPL v8
 (b8 R C3 x0 x2 w9)
 (R (.returned (.tuple #[])) w9)
abbrev q15 (R:EP) (C3:VP):XP:=QX (fun ρ w=>b8 R C3 (ρ 0) (ρ 2) w) (fun ρ w=>R (.returned (.tuple #[])) w) [(0,(fun ρ w=>R (.returned (.tuple #[])) w))]
theorem b4_eq (R:EP) (C3:VP) (ρ:Env) (w:World):(b4 R C3 (ρ 0) (ρ 2) w)=codeP Tryd.prog (pan R) (preC 0 p2) (q15 R C3) ρ w:=by kernel_rfl
theorem b4_ok (R:EP) (C3:VP) (ρ:Env) (w:World) (h:b4 R C3 (ρ 0) (ρ 2) w):codeP Tryd.prog (pan R) p2 (q1 R C3) ρ w:=by
 have e:appC 0 (preC 0 p2) (dropC 1 p2)=p2:=by kernel_rfl
 rw [←e]
 exact appQ (fun ρ w=>b8 R C3 (ρ 0) (ρ 2) w) 0 ((b4_eq R C3 ρ w).mp h) (fun ρ w h=>k5_ok R C3 ρ w h)

def l3 (R:EP) (x0 x2:Value) (w:World) (_r:Tok R:=tok R):Prop :=
 ∃(J:VP) (μ:Value→World→Nat),J x2 w∧∀y2 w0,J y2 w0→b4 R (fun z2 w1=>J z2 w1∧μ z2 w1<μ y2 w0) x0 y2 w0
abbrev q16 (R:EP):XP:=QX (fun ρ w=>R (.returned (.tuple #[])) w) (fun ρ w=>R (.returned (.tuple #[])) w) [(0,(fun ρ w=>R (.returned (.tuple #[])) w))]
theorem l3_ok (R:EP) (ρ:Env) (w:World) (h:l3 R (ρ 0) (ρ 2) w):codeP Tryd.prog (pan R) (blkC p1) (q16 R) ρ w:=by
 unfold l3 at h
 obtain ⟨J,μ,h0,hr⟩:=h
 have e:Code.loop (loopC (blkC p1))=(blkC p1):=by kernel_rfl
 rw [←e]
 refine loopQ (fun ρ' w'=>J (ρ' 2) w') (fun ρ' w'=>μ (ρ' 2) w') h0 fun ρ' w' hA hI=>?_
 have e0:ρ' 0=ρ 0:=Agree.at hA 0 (by kernel_rfl)
 have h1:=hr (ρ' 2) w' hI
 rw [←e0] at h1
 exact b4_ok R (fun z2 w1=>J z2 w1∧μ z2 w1<μ (ρ' 2) w') ρ' w' h1
abbrev q17 (R:EP):XP:=QX (fun ρ w=>R (.returned (.tuple #[])) w) (fun ρ w=>R (.returned (.tuple #[])) w) []
theorem k2_ok (R:EP) (ρ:Env) (w:World) (h:l3 R (ρ 0) (ρ 2) w):codeP Tryd.prog (pan R) p1 (q17 R) ρ w:=by
 have e:Code.block 0 (blkC p1)=p1:=by kernel_rfl
 rw [←e]
 exact blockQ (l3_ok R ρ w h)

def b1 (R:EP) (x0:Value) (w:World) (_r:Tok R:=tok R):Prop :=
 l3 R x0 (Go.Value.int Go.IntKind.i64 0) w
abbrev q18 (R:EP):XP:=QX (fun ρ w=>l3 R (ρ 0) (ρ 2) w) (fun ρ w=>R (.returned (.tuple #[])) w) []
theorem b1_eq (R:EP) (ρ:Env) (w:World):(b1 R (ρ 0) w)=codeP Tryd.prog (pan R) (preC 0 code) (q18 R) ρ w:=by kernel_rfl
theorem b1_ok (R:EP) (ρ:Env) (w:World) (h:b1 R (ρ 0) w):codeP Tryd.prog (pan R) code (q17 R) ρ w:=by
 have e:appC 0 (preC 0 code) (dropC 1 code)=code:=by kernel_rfl
 rw [←e]
 exact appQ (fun ρ w=>l3 R (ρ 0) (ρ 2) w) 0 ((b1_eq R ρ w).mp h) (fun ρ w h=>k2_ok R ρ w h)
/-- What is owed for a call. -/
def run (R:EP) (a0:Value) (w:World):Prop:=b1 R a0 w
theorem calls (R:EP) (a0:Value) (w:World) (h:run R a0 w):Calls Tryd.prog id #[a0] w R :=
 calls_of_0 (f:=id) (fn:=Tryd.f31) (c:=code) (by kernel_rfl) Tryd.func31 (by kernel_rfl) (by kernel_rfl) (args:=[a0]) (Nat.le_of_ble_eq_true rfl) rfl (b1_ok R (envOf [a0]) w h)
theorem enters:Enters Tryd.prog id:=fun args w=>Tryd.call31 args w
theorem ct {a0:Value} {w:World} {S:VP} (h:∀R:EP,(∀v w,S v w→R (.returned v) w)→run R a0 w):Ct Tryd.prog id #[a0] w S :=
 Ct.intro enters fun R hR=>calls R a0 w (h R hR)
attribute [irreducible] b6 b15 b14_1 b14_2 b14 l13 b11 b10_1 b10 b20 b19_1 b19_2 b19 l18 b16 b8 b4 l3 b1 run
attribute [go_sem] b6 b15 b14_1 b14_2 b14 b11 b10_1 b10 b20 b19_1 b19_2 b19 b16 b8 b4 b1 run
end ref04_Text_number

/-! ### (*presage/presageref04.Text).grammar -/
namespace ref04_Text_grammar
noncomputable def code:Code:=bodyOf Tryd.f32
noncomputable abbrev p1:Code:=dropC 3 code

def b3 (R:EP) (x2 x3:Value) (w:World) (_r:Tok R:=tok R):Prop :=
 RUN Tryd.prog (pan R) (Instr.loadAt 28 x3) w fun v1 w2 =>
 RUNU Tryd.prog (pan R) (Instr.storeAt 28 x2 v1) w2 fun w3 =>
 LD Tryd.prog (Instr.loadAt 28 x2) w3 fun r0=>R (.returned r0) w3
abbrev q1 (R:EP):XP:=QX (fun ρ w=>LD Tryd.prog (Instr.loadAt 28 (ρ 2)) w fun r0=>R (.returned r0) w) (fun ρ w=>LD Tryd.prog (Instr.loadAt 28 (ρ 2)) w fun r0=>R (.returned r0) w) []
theorem b3_eq (R:EP) (ρ:Env) (w:World):(b3 R (ρ 2) (ρ 3) w)=codeP Tryd.prog (pan R) (sndC p1) (q1 R) ρ w:=by kernel_rfl
theorem b3_ok (R:EP) (ρ:Env) (w:World) (h:b3 R (ρ 2) (ρ 3) w):codeP Tryd.prog (pan R) (sndC p1) (q1 R) ρ w:=(b3_eq R ρ w).mp h
noncomputable abbrev p2:Code:=dropC 1 (fstC p1)
noncomputable abbrev p3:Code:=loopC (blkC p2)
noncomputable abbrev p4:Code:=dropC 1 p3

def b9 (R:EP) (C6:VP) (x4:Value) (w:World) (_r:Tok R:=tok R) (_C6:Tok C6:=tok C6):Prop :=
 RUN Tryd.prog (pan R) (bins .add 3 (.tmp 46) (.const (Go.Value.int Go.IntKind.i64 1)) x4 (Go.Value.int Go.IntKind.i64 1)) w fun v1 w2 =>
 C6 v1 w2
abbrev q2 (R:EP) (C6:VP):XP:=QX (fun ρ w=>C6 (ρ 4) w) (fun ρ w=>LD Tryd.prog (Instr.loadAt 28 (ρ 2)) w fun r0=>R (.returned r0) w) [(0,(fun ρ w=>b3 R (ρ 2) (ρ 3) w))]
theorem b9_eq (R:EP) (C6:VP) (ρ:Env) (w:World):(b9 R C6 (ρ 4) w)=codeP Tryd.prog (pan R) (sndC p4) (q2 R C6) ρ w:=by kernel_rfl
theorem b9_ok (R:EP) (C6:VP) (ρ:Env) (w:World) (h:b9 R C6 (ρ 4) w):codeP Tryd.prog (pan R) (sndC p4) (q2 R C6) ρ w:=(b9_eq R C6 ρ w).mp h
noncomputable abbrev p5:Code:=blkC (fstC p4)
noncomputable abbrev p6:Code:=dropC 2 p5
noncomputable abbrev p7:Code:=dropC 1 (sndC p6)
noncomputable abbrev p8:Code:=dropC 1 p7

def b15 (R:EP) (C6:VP) (x3 x4 x6:Value) (w:World) (_r:Tok R:=tok R) (_C6:Tok C6:=tok C6):Prop :=
 RUN Tryd.prog (pan R) (Instr.fieldAt 28 x3 4) w fun v1 w2 =>
 RUN Tryd.prog (pan R) (Instr.loadAt 26 v1) w2 fun v3 w4 =>
 RUN Tryd.prog (pan R) (Instr.loadAt 37 x6) w4 fun v5 w6 =>
 RUN Tryd.prog (pan R) (Instr.buildSlice 26 1 #[(0,v5)]) w6 fun v7 w8 =>
 RUN Tryd.prog (pan R) (Builtin.append_ #[26,26] 26 #[v3,v7]) w8 fun v9 w10 =>
 RUN Tryd.prog (pan R) (Instr.fieldAt 28 x3 4) w10 fun v11 w12 =>
 RUNU Tryd.prog (pan R) (Instr.storeAt 26 v11 v9) w12 fun w13 =>
 b9 R C6 x4 w13
abbrev q3 (R:EP) (C6:VP):XP:=QX (fun ρ w=>b9 R C6 (ρ 4) w) (fun ρ w=>LD Tryd.prog (Instr.loadAt 28 (ρ 2)) w fun r0=>R (.returned r0) w) [(2,(fun ρ w=>b9 R C6 (ρ 4) w)),(0,(fun ρ w=>b3 R (ρ 2) (ρ 3) w))]
theorem b15_eq (R:EP) (C6:VP) (ρ:Env) (w:World):(b15 R C6 (ρ 3) (ρ 4) (ρ 6) w)=codeP Tryd.prog (pan R) p8 (q3 R C6) ρ w:=by kernel_rfl
theorem b15_ok (R:EP) (C6:VP) (ρ:Env) (w:World) (h:b15 R C6 (ρ 3) (ρ 4) (ρ 6) w):codeP Tryd.prog (pan R) p8 (q3 R C6) ρ w:=(b15_eq R C6 ρ w).mp h
def b14_1 (R:EP) (C6:VP) (x3 x4 x6:Value) (w6:World) (_r:Tok R:=tok R) (_C6:Tok C6:=tok C6):Prop :=
 RUN Tryd.prog (pan R) (Instr.fieldAt 37 x6 2) w6 fun v7 w8 =>
 RUNU Tryd.prog (pan R) (Instr.storeAt 3 v7 (Go.Value.int Go.IntKind.i64 0)) w8 fun w9 =>
 b15 R C6 x3 x4 x6 w9

def b14 (R:EP) (C6:VP) (x3 x4 x5 x6:Value) (w:World) (_r:Tok R:=tok R) (_C6:Tok C6:=tok C6):Prop :=
 RUN Tryd.prog (pan R) (Instr.fieldAt 124 x5 2) w fun v1 w2 =>
 RUN Tryd.prog (pan R) (Instr.loadAt 3 v1) w2 fun v3 w4 =>
 RUN Tryd.prog (pan R) (bins .eql 3 (.tmp 112) (.const (Go.Value.int Go.IntKind.i64 2)) v3 (Go.Value.int Go.IntKind.i64 2)) w4 fun v5 w6 =>
 SPL v5
 (b14_1 R C6 x3 x4 x6 w6)
 (b15 R C6 x3 x4 x6 w6)
abbrev q4 (R:EP) (C6:VP):XP:=QX (fun ρ w=>b15 R C6 (ρ 3) (ρ 4) (ρ 6) w) (fun ρ w=>LD Tryd.prog (Instr.loadAt 28 (ρ 2)) w fun r0=>R (.returned r0) w) [(2,(fun ρ w=>b9 R C6 (ρ 4) w)),(0,(fun ρ w=>b3 R (ρ 2) (ρ 3) w))]
theorem b14_eq (R:EP) (C6:VP) (ρ:Env) (w:World):(b14 R C6 (ρ 3) (ρ 4) (ρ 5) (ρ 6) w)=codeP Tryd.prog (pan R) (preC 0 p7) (q4 R C6) ρ w:=by kernel_rfl
theorem b14_ok (R:EP) (C6:VP) (ρ:Env) (w:World) (h:b14 R C6 (ρ 3) (ρ 4) (ρ 5) (ρ 6) w):codeP Tryd.prog (pan R) p7 (q3 R C6) ρ w:=by
 have e:appC 0 (preC 0 p7) (dropC 1 p7)=p7:=by kernel_rfl
 rw [←e]
 exact appQ (fun ρ w=>b15 R C6 (ρ 3) (ρ 4) (ρ 6) w) 0 ((b14_eq R C6 ρ w).mp h) (fun ρ w h=>b15_ok R C6 ρ w h)
def b13_1 (R:EP) (C6:VP) (x3 x4 x5 x6 v8 v9 v12:Value) (w13:World) (_r:Tok R:=tok R) (_C6:Tok C6:=tok C6):Prop :=
 Sem.run Tryd.prog (Instr.loadAt 23 v8) w13 = .ok v9 w13∧(PUR Tryd.prog (Instr.indexAt 23 v9 v12) fun v14 =>
 PUR Tryd.prog (Instr.fieldAt 39 v14 1) fun v15 =>
 LD Tryd.prog (Instr.loadAt 3 v15) w13 fun v16 =>
 PUR Tryd.prog (Instr.fieldAt 37 x6 2) fun v17 =>
 RUNU Tryd.prog (pan R) (Instr.storeAt 3 v17 v16) w13 fun w18 =>
 b14 R C6 x3 x4 x5 x6 w18)
def b13_2 (R:EP) (C6:VP) (x0 x3 x4 x5 x6:Value) (w6:World) (_r:Tok R:=tok R) (_C6:Tok C6:=tok C6):Prop :=
 NILC x0 fun v7 =>
 PUR Tryd.prog (Instr.fieldAt 69 v7 2) fun v8 =>
 LD Tryd.prog (Instr.loadAt 23 v8) (World.drew w6) fun v9 =>
 PUR Tryd.prog (Instr.fieldAt 124 x5 3) fun v10 =>
 LD Tryd.prog (Instr.loadAt 9 v10) (World.drew w6) fun v11 =>
 CALL Tryd.prog (pan R) ref04_Text_term.id #[x0,v11] (World.drew w6) fun v12 w13 =>
 b13_1 R C6 x3 x4 x5 x6 v8 v9 v12 w13

def b13 (R:EP) (C6:VP) (x0 x3 x4 x5 x6:Value) (w:World) (_r:Tok R:=tok R) (_C6:Tok C6:=tok C6):Prop :=
 RUN Tryd.prog (pan R) (Instr.fieldAt 124 x5 2) w fun v1 w2 =>
 RUN Tryd.prog (pan R) (Instr.loadAt 3 v1) w2 fun v3 w4 =>
 RUN Tryd.prog (pan R) (bins .eql 3 (.tmp 97) (.const (Go.Value.int Go.IntKind.i64 1)) v3 (Go.Value.int Go.IntKind.i64 1)) w4 fun v5 w6 =>
 SPL v5
 (b13_2 R C6 x0 x3 x4 x5 x6 w6)
 (b14 R C6 x3 x4 x5 x6 w6)
abbrev q5 (R:EP) (C6:VP):XP:=QX (fun ρ w=>b14 R C6 (ρ 3) (ρ 4) (ρ 5) (ρ 6) w) (fun ρ w=>LD Tryd.prog (Instr.loadAt 28 (ρ 2)) w fun r0=>R (.returned r0) w) [(2,(fun ρ w=>b9 R C6 (ρ 4) w)),(0,(fun ρ w=>b3 R (ρ 2) (ρ 3) w))]
theorem b13_eq (R:EP) (C6:VP) (ρ:Env) (w:World):(b13 R C6 (ρ 0) (ρ 3) (ρ 4) (ρ 5) (ρ 6) w)=codeP Tryd.prog (pan R) (preC 0 (sndC p6)) (q5 R C6) ρ w:=by kernel_rfl
theorem b13_ok (R:EP) (C6:VP) (ρ:Env) (w:World) (h:b13 R C6 (ρ 0) (ρ 3) (ρ 4) (ρ 5) (ρ 6) w):codeP Tryd.prog (pan R) (sndC p6) (q3 R C6) ρ w:=by
 have e:appC 0 (preC 0 (sndC p6)) (dropC 1 (sndC p6))=(sndC p6):=by kernel_rfl
 rw [←e]
 exact appQ (fun ρ w=>b14 R C6 (ρ 3) (ρ 4) (ρ 5) (ρ 6) w) 0 ((b13_eq R C6 ρ w).mp h) (fun ρ w h=>b14_ok R C6 ρ w h)
noncomputable abbrev p9:Code:=dropC 1 (fstC p6)
noncomputable abbrev p10:Code:=loopC (blkC p9)
noncomputable abbrev p11:Code:=dropC 2 p10

def b20 (R:EP) (C6:VP) (C18:VP) (x7:Value) (w:World) (_r:Tok R:=tok R) (_C6:Tok C6:=tok C6) (_C18:Tok C18:=tok C18):Prop :=
 RUN Tryd.prog (pan R) (bins .add 3 (.tmp 65) (.const (Go.Value.int Go.IntKind.i64 1)) x7 (Go.Value.int Go.IntKind.i64 1)) w fun v1 w2 =>
 C18 v1 w2
abbrev q6 (R:EP) (C6:VP) (C18:VP):XP:=QX (fun ρ w=>C18 (ρ 7) w) (fun ρ w=>LD Tryd.prog (Instr.loadAt 28 (ρ 2)) w fun r0=>R (.returned r0) w) [(4,(fun ρ w=>b13 R C6 (ρ 0) (ρ 3) (ρ 4) (ρ 5) (ρ 6) w)),(2,(fun ρ w=>b9 R C6 (ρ 4) w)),(0,(fun ρ w=>b3 R (ρ 2) (ρ 3) w))]
theorem b20_eq (R:EP) (C6:VP) (C18:VP) (ρ:Env) (w:World):(b20 R C6 C18 (ρ 7) w)=codeP Tryd.prog (pan R) p11 (q6 R C6 C18) ρ w:=by kernel_rfl
theorem b20_ok (R:EP) (C6:VP) (C18:VP) (ρ:Env) (w:World) (h:b20 R C6 C18 (ρ 7) w):codeP Tryd.prog (pan R) p11 (q6 R C6 C18) ρ w:=(b20_eq R C6 C18 ρ w).mp h
def b19_1 (R:EP) (C6:VP) (C18:VP) (x0 x6 x7 v17:Value) (w38:World) (_r:Tok R:=tok R) (_C6:Tok C6:=tok C6) (_C18:Tok C18:=tok C18):Prop :=
 NILC x0 fun v39 =>
 RUN Tryd.prog (pan R) (Instr.fieldAt 69 v39 2) w38 fun v40 w41 =>
 RUN Tryd.prog (pan R) (Instr.loadAt 23 v40) w41 fun v42 w43 =>
 RUN Tryd.prog (pan R) (Instr.indexAt 23 v42 v17) w43 fun v44 w45 =>
 RUN Tryd.prog (pan R) (Instr.fieldAt 39 v44 1) w45 fun v46 w47 =>
 RUN Tryd.prog (pan R) (Instr.loadAt 3 v46) w47 fun v48 w49 =>
 RUN Tryd.prog (pan R) (Instr.fieldAt 37 x6 2) w49 fun v50 w51 =>
 RUNU Tryd.prog (pan R) (Instr.storeAt 3 v50 v48) w51 fun w52 =>
 b20 R C6 C18 x7 w52
def b19_2 (R:EP) (C6:VP) (C18:VP) (x0 x6 x7 v17:Value) (w18:World) (_r:Tok R:=tok R) (_C6:Tok C6:=tok C6) (_C18:Tok C18:=tok C18):Prop :=
 RUN Tryd.prog (pan R) (Instr.fieldAt 37 x6 1) w18 fun v19 w20 =>
 RUN Tryd.prog (pan R) (Instr.loadAt 25 v19) w20 fun v21 w22 =>
 RUN Tryd.prog (pan R) (Instr.buildSlice 25 1 #[(0,v17)]) w22 fun v23 w24 =>
 RUN Tryd.prog (pan R) (Builtin.append_ #[25,25] 25 #[v21,v23]) w24 fun v25 w26 =>
 RUN Tryd.prog (pan R) (Instr.fieldAt 37 x6 1) w26 fun v27 w28 =>
 RUNU Tryd.prog (pan R) (Instr.storeAt 25 v27 v25) w28 fun w29 =>
 NILC x0 fun v30 =>
 RUN Tryd.prog (pan R) (Instr.fieldAt 69 v30 2) w29 fun v31 w32 =>
 RUN Tryd.prog (pan R) (Instr.loadAt 23 v31) w32 fun v33 w34 =>
 RUN Tryd.prog (pan R) (Builtin.len_ #[23] 3 #[v33]) w34 fun v35 w36 =>
 RUN Tryd.prog (pan R) (bins .lss 3 (.tmp 80) (.tmp 85) v17 v35) w36 fun v37 w38 =>
 SPL v37
 (b19_1 R C6 C18 x0 x6 x7 v17 w38)
 (b20 R C6 C18 x7 w38)
def b19_3 (R:EP) (C6:VP) (C18:VP) (x0 x5 x6 x7:Value) (w8:World) (_r:Tok R:=tok R) (_C6:Tok C6:=tok C6) (_C18:Tok C18:=tok C18):Prop :=
 RUN Tryd.prog (pan R) (Instr.fieldAt 124 x5 1) w8 fun v9 w10 =>
 RUN Tryd.prog (pan R) (Instr.loadAt 41 v9) w10 fun v11 w12 =>
 RUN Tryd.prog (pan R) (Instr.indexAt 41 v11 x7) w12 fun v13 w14 =>
 RUN Tryd.prog (pan R) (Instr.loadAt 46 v13) w14 fun v15 w16 =>
 CALL Tryd.prog (pan R) ref04_Text_symbol.id #[x0,v15] w16 fun v17 w18 =>
 b19_2 R C6 C18 x0 x6 x7 v17 w18

def b19 (R:EP) (C6:VP) (C18:VP) (x0 x3 x4 x5 x6 x7:Value) (w:World) (_r:Tok R:=tok R) (_C6:Tok C6:=tok C6) (_C18:Tok C18:=tok C18):Prop :=
 RUN Tryd.prog (pan R) (Instr.fieldAt 124 x5 1) w fun v1 w2 =>
 RUN Tryd.prog (pan R) (Instr.loadAt 41 v1) w2 fun v3 w4 =>
 RUN Tryd.prog (pan R) (Builtin.len_ #[41] 3 #[v3]) w4 fun v5 w6 =>
 RUN Tryd.prog (pan R) (bins .lss 3 (.tmp 60) (.tmp 63) x7 v5) w6 fun v7 w8 =>
 SPL v7
 (b19_3 R C6 C18 x0 x5 x6 x7 w8)
 (b13 R C6 x0 x3 x4 x5 x6 w8)
abbrev q7 (R:EP) (C6:VP) (C18:VP):XP:=QX (fun ρ w=>b20 R C6 C18 (ρ 7) w) (fun ρ w=>LD Tryd.prog (Instr.loadAt 28 (ρ 2)) w fun r0=>R (.returned r0) w) [(4,(fun ρ w=>b13 R C6 (ρ 0) (ρ 3) (ρ 4) (ρ 5) (ρ 6) w)),(2,(fun ρ w=>b9 R C6 (ρ 4) w)),(0,(fun ρ w=>b3 R (ρ 2) (ρ 3) w))]
theorem b19_eq (R:EP) (C6:VP) (C18:VP) (ρ:Env) (w:World):(b19 R C6 C18 (ρ 0) (ρ 3) (ρ 4) (ρ 5) (ρ 6) (ρ 7) w)=codeP Tryd.prog (pan R) (preC 1 p10) (q7 R C6 C18) ρ w:=by kernel_rfl
theorem b19_ok (R:EP) (C6:VP) (C18:VP) (ρ:Env) (w:World) (h:b19 R C6 C18 (ρ 0) (ρ 3) (ρ 4) (ρ 5) (ρ 6) (ρ 7) w):codeP Tryd.prog (pan R) p10 (q6 R C6 C18) ρ w:=by
 have e:appC 1 (preC 1 p10) (dropC 2 p10)=p10:=by kernel_rfl
 rw [←e]
 exact appQ (fun ρ w=>b20 R C6 C18 (ρ 7) w) 1 ((b19_eq R C6 C18 ρ w).mp h) (fun ρ w h=>b20_ok R C6 C18 ρ w h)

def l18 (R:EP) (C6:VP) (x0 x3 x4 x5 x6 x7:Value) (w:World) (_r:Tok R:=tok R) (_C6:Tok C6:=tok C6):Prop :=
 ∃(J:VP) (μ:Value→World→Nat),J x7 w∧∀y7 w0,J y7 w0→b19 R C6 (fun z7 w1=>J z7 w1∧μ z7 w1<μ y7 w0) x0 x3 x4 x5 x6 y7 w0
abbrev q8 (R:EP) (C6:VP):XP:=QX (fun ρ w=>b13 R C6 (ρ 0) (ρ 3) (ρ 4) (ρ 5) (ρ 6) w) (fun ρ w=>LD Tryd.prog (Instr.loadAt 28 (ρ 2)) w fun r0=>R (.returned r0) w) [(4,(fun ρ w=>b13 R C6 (ρ 0) (ρ 3) (ρ 4) (ρ 5) (ρ 6) w)),(2,(fun ρ w=>b9 R C6 (ρ 4) w)),(0,(fun ρ w=>b3 R (ρ 2) (ρ 3) w))]
theorem l18_ok (R:EP) (C6:VP) (ρ:Env) (w:World) (h:l18 R C6 (ρ 0) (ρ 3) (ρ 4) (ρ 5) (ρ 6) (ρ 7) w):codeP Tryd.prog (pan R) (blkC p9) (q8 R C6) ρ w:=by
 unfold l18 at h
 obtain ⟨J,μ,h0,hr⟩:=h
 have e:Code.loop (loopC (blkC p9))=(blkC p9):=by kernel_rfl
 rw [←e]
 refine loopQ (fun ρ' w'=>J (ρ' 7) w') (fun ρ' w'=>μ (ρ' 7) w') h0 fun ρ' w' hA hI=>?_
 have e0:ρ' 0=ρ 0:=Agree.at hA 0 (by kernel_rfl)
 have e3:ρ' 3=ρ 3:=Agree.at hA 3 (by kernel_rfl)
 have e4:ρ' 4=ρ 4:=Agree.at hA 4 (by kernel_rfl)
 have e5:ρ' 5=ρ 5:=Agree.at hA 5 (by kernel_rfl)
 have e6:ρ' 6=ρ 6:=Agree.at hA 6 (by kernel_rfl)
 have h1:=hr (ρ' 7) w' hI
 rw [←e0,←e3,←e4,←e5,←e6] at h1
 exact b19_ok R C6 (fun z7 w1=>J z7 w1∧μ z7 w1<μ (ρ' 7) w') ρ' w' h1
theorem l18_intro (R:EP) (C6:VP) (x0 x3 x4 x5 x6 x7:Value) (w:World) (J:VP) (μ:Value→World→Nat) (h0:J x7 w)
  (hr:∀y7 w0,J y7 w0→∀C18:VP,(∀z7 w1,J z7 w1→μ z7 w1<μ y7 w0→C18 z7 w1)→b19 R C6 C18 x0 x3 x4 x5 x6 y7 w0):l18 R C6 x0 x3 x4 x5 x6 x7 w:=by
 unfold l18
 exact ⟨J,μ,h0,fun y7 w0 hJ=>hr y7 w0 hJ _ (fun z7 w1 h1 h2=>⟨h1,h2⟩)⟩
abbrev q9 (R:EP) (C6:VP):XP:=QX (fun ρ w=>b13 R C6 (ρ 0) (ρ 3) (ρ 4) (ρ 5) (ρ 6) w) (fun ρ w=>LD Tryd.prog (Instr.loadAt 28 (ρ 2)) w fun r0=>R (.returned r0) w) [(2,(fun ρ w=>b9 R C6 (ρ 4) w)),(0,(fun ρ w=>b3 R (ρ 2) (ρ 3) w))]
theorem k17_ok (R:EP) (C6:VP) (ρ:Env) (w:World) (h:l18 R C6 (ρ 0) (ρ 3) (ρ 4) (ρ 5) (ρ 6) (ρ 7) w):codeP Tryd.prog (pan R) p9 (q9 R C6) ρ w:=by
 have e:Code.block 2 (blkC p9)=p9:=by kernel_rfl
 rw [←e]
 exact blockQ (l18_ok R C6 ρ w h)

def b16 (R:EP) (C6:VP) (x0 x3 x4 x5 x6:Value) (w:World) (_r:Tok R:=tok R) (_C6:Tok C6:=tok C6):Prop :=
 l18 R C6 x0 x3 x4 x5 x6 (Go.Value.int Go.IntKind.i64 0) w
abbrev q10 (R:EP) (C6:VP):XP:=QX (fun ρ w=>l18 R C6 (ρ 0) (ρ 3) (ρ 4) (ρ 5) (ρ 6) (ρ 7) w) (fun ρ w=>LD Tryd.prog (Instr.loadAt 28 (ρ 2)) w fun r0=>R (.returned r0) w) [(2,(fun ρ w=>b9 R C6 (ρ 4) w)),(0,(fun ρ w=>b3 R (ρ 2) (ρ 3) w))]
theorem b16_eq (R:EP) (C6:VP) (ρ:Env) (w:World):(b16 R C6 (ρ 0) (ρ 3) (ρ 4) (ρ 5) (ρ 6) w)=codeP Tryd.prog (pan R) (preC 0 (fstC p6)) (q10 R C6) ρ w:=by kernel_rfl
theorem b16_ok (R:EP) (C6:VP) (ρ:Env) (w:World) (h:b16 R C6 (ρ 0) (ρ 3) (ρ 4) (ρ 5) (ρ 6) w):codeP Tryd.prog (pan R) (fstC p6) (q9 R C6) ρ w:=by
 have e:appC 0 (preC 0 (fstC p6)) (dropC 1 (fstC p6))=(fstC p6):=by kernel_rfl
 rw [←e]
 exact appQ (fun ρ w=>l18 R C6 (ρ 0) (ρ 3) (ρ 4) (ρ 5) (ρ 6) (ρ 7) w) 0 ((b16_eq R C6 ρ w).mp h) (fun ρ w h=>k17_ok R C6 ρ w h)
theorem k12_ok (R:EP) (C6:VP) (ρ:Env) (w:World) (h:b16 R C6 (ρ 0) (ρ 3) (ρ 4) (ρ 5) (ρ 6) w):codeP Tryd.prog (pan R) p6 (q3 R C6) ρ w:=by
 have e:Code.seq (fstC p6) (sndC p6)=p6:=by kernel_rfl
 rw [←e]
 exact seqQ (fun ρ w=>b13 R C6 (ρ 0) (ρ 3) (ρ 4) (ρ 5) (ρ 6) w) (b16_ok R C6 ρ w h) (fun ρ w h=>b13_ok R C6 ρ w h)
def b11_1 (R:EP) (C6:VP) (x0 x3 x4 v10 v17:Value) (w18:World) (_r:Tok R:=tok R) (_C6:Tok C6:=tok C6):Prop :=
 RUN Tryd.prog (pan R) (Instr.build 37 #[(0,v17)]) w18 fun v19 w20 =>
 RUN Tryd.prog (pan R) (Instr.alloc 37 true (.tuple #[])) w20 fun v21 w22 =>
 RUNU Tryd.prog (pan R) (Instr.storeAt 37 v21 v19) w22 fun w23 =>
 b16 R C6 x0 x3 x4 v10 v21 w23

def b11 (R:EP) (C6:VP) (x0 x3 x4:Value) (w:World) (_r:Tok R:=tok R) (_C6:Tok C6:=tok C6):Prop :=
 NILC x0 fun v1 =>
 RUN Tryd.prog (pan R) (Instr.fieldAt 69 v1 4) w fun v2 w3 =>
 RUN Tryd.prog (pan R) (Instr.loadAt 67 v2) w3 fun v4 w5 =>
 RUN Tryd.prog (pan R) (Instr.indexAt 67 v4 x4) w5 fun v6 w7 =>
 RUN Tryd.prog (pan R) (Instr.loadAt 124 v6) w7 fun v8 w9 =>
 RUN Tryd.prog (pan R) (Instr.alloc 124 true (.tuple #[])) w9 fun v10 w11 =>
 RUNU Tryd.prog (pan R) (Instr.storeAt 124 v10 v8) w11 fun w12 =>
 RUN Tryd.prog (pan R) (Instr.fieldAt 124 v10 0) w12 fun v13 w14 =>
 RUN Tryd.prog (pan R) (Instr.loadAt 9 v13) w14 fun v15 w16 =>
 CALL Tryd.prog (pan R) ref04_Text_non.id #[x0,v15] w16 fun v17 w18 =>
 b11_1 R C6 x0 x3 x4 v10 v17 w18
abbrev q11 (R:EP) (C6:VP):XP:=QX (fun ρ w=>b16 R C6 (ρ 0) (ρ 3) (ρ 4) (ρ 5) (ρ 6) w) (fun ρ w=>LD Tryd.prog (Instr.loadAt 28 (ρ 2)) w fun r0=>R (.returned r0) w) [(2,(fun ρ w=>b9 R C6 (ρ 4) w)),(0,(fun ρ w=>b3 R (ρ 2) (ρ 3) w))]
theorem b11_eq (R:EP) (C6:VP) (ρ:Env) (w:World):(b11 R C6 (ρ 0) (ρ 3) (ρ 4) w)=codeP Tryd.prog (pan R) (preC 1 p5) (q11 R C6) ρ w:=by kernel_rfl
theorem b11_ok (R:EP) (C6:VP) (ρ:Env) (w:World) (h:b11 R C6 (ρ 0) (ρ 3) (ρ 4) w):codeP Tryd.prog (pan R) p5 (q3 R C6) ρ w:=by
 have e:appC 1 (preC 1 p5) (dropC 2 p5)=p5:=by kernel_rfl
 rw [←e]
 exact appQ (fun ρ w=>b16 R C6 (ρ 0) (ρ 3) (ρ 4) (ρ 5) (ρ 6) w) 1 ((b11_eq R C6 ρ w).mp h) (fun ρ w h=>k12_ok R C6 ρ w h)
abbrev q12 (R:EP) (C6:VP):XP:=QX (fun ρ w=>b9 R C6 (ρ 4) w) (fun ρ w=>LD Tryd.prog (Instr.loadAt 28 (ρ 2)) w fun r0=>R (.returned r0) w) [(0,(fun ρ w=>b3 R (ρ 2) (ρ 3) w))]
theorem k10_ok (R:EP) (C6:VP) (ρ:Env) (w:World) (h:b11 R C6 (ρ 0) (ρ 3) (ρ 4) w):codeP Tryd.prog (pan R) (fstC p4) (q12 R C6) ρ w:=by
 have e:Code.block 1 (blkC (fstC p4))=(fstC p4):=by kernel_rfl
 rw [←e]
 exact blockQ (b11_ok R C6 ρ w h)
theorem k8_ok (R:EP) (C6:VP) (ρ:Env) (w:World) (h:b11 R C6 (ρ 0) (ρ 3) (ρ 4) w):codeP Tryd.prog (pan R) p4 (q2 R C6) ρ w:=by
 have e:Code.seq (fstC p4) (sndC p4)=p4:=by kernel_rfl
 rw [←e]
 exact seqQ (fun ρ w=>b9 R C6 (ρ 4) w) (k10_ok R C6 ρ w h) (fun ρ w h=>b9_ok R C6 ρ w h)

def b7 (R:EP) (C6:VP) (x0 x2 x3 x4:Value) (w:World) (_r:Tok R:=tok R) (_C6:Tok C6:=tok C6):Prop :=
 NILC x0 fun v1 =>
 RUN Tryd.prog (pan R) (Instr.fieldAt 69 v1 4) w fun v2 w3 =>
 RUN Tryd.prog (pan R) (Instr.loadAt 67 v2) w3 fun v4 w5 =>
 RUN Tryd.prog (pan R) (Builtin.len_ #[67] 3 #[v4]) w5 fun v6 w7 =>
 RUN Tryd.prog (pan R) (bins .lss 3 (.tmp 39) (.tmp 44) x4 v6) w7 fun v8 w9 =>
 SPL v8
 (b11 R C6 x0 x3 x4 w9)
 (b3 R x2 x3 w9)
abbrev q13 (R:EP) (C6:VP):XP:=QX (fun ρ w=>b11 R C6 (ρ 0) (ρ 3) (ρ 4) w) (fun ρ w=>LD Tryd.prog (Instr.loadAt 28 (ρ 2)) w fun r0=>R (.returned r0) w) [(0,(fun ρ w=>b3 R (ρ 2) (ρ 3) w))]
theorem b7_eq (R:EP) (C6:VP) (ρ:Env) (w:World):(b7 R C6 (ρ 0) (ρ 2) (ρ 3) (ρ 4) w)=codeP Tryd.prog (pan R) (preC 0 p3) (q13 R C6) ρ w:=by kernel_rfl
theorem b7_ok (R:EP) (C6:VP) (ρ:Env) (w:World) (h:b7 R C6 (ρ 0) (ρ 2) (ρ 3) (ρ 4) w):codeP Tryd.prog (pan R) p3 (q2 R C6) ρ w:=by
 have e:appC 0 (preC 0 p3) (dropC 1 p3)=p3:=by kernel_rfl
 rw [←e]
 exact appQ (fun ρ w=>b11 R C6 (ρ 0) (ρ 3) (ρ 4) w) 0 ((b7_eq R C6 ρ w).mp h) (fun ρ w h=>k8_ok R C6 ρ w h)

def l6 (R:EP) (x0 x2 x3 x4:Value) (w:World) (_r:Tok R:=tok R):Prop :=
 ∃(J:VP) (μ:Value→World→Nat),J x4 w∧∀y4 w0,J y4 w0→b7 R (fun z4 w1=>J z4 w1∧μ z4 w1<μ y4 w0) x0 x2 x3 y4 w0
abbrev q14 (R:EP):XP:=QX (fun ρ w=>b3 R (ρ 2) (ρ 3) w) (fun ρ w=>LD Tryd.prog (Instr.loadAt 28 (ρ 2)) w fun r0=>R (.returned r0) w) [(0,(fun ρ w=>b3 R (ρ 2) (ρ 3) w))]
theorem l6_ok (R:EP) (ρ:Env) (w:World) (h:l6 R (ρ 0) (ρ 2) (ρ 3) (ρ 4) w):codeP Tryd.prog (pan R) (blkC p2) (q14 R) ρ w:=by
 unfold l6 at h
 obtain ⟨J,μ,h0,hr⟩:=h
 have e:Code.loop (loopC (blkC p2))=(blkC p2):=by kernel_rfl
 rw [←e]
 refine loopQ (fun ρ' w'=>J (ρ' 4) w') (fun ρ' w'=>μ (ρ' 4) w') h0 fun ρ' w' hA hI=>?_
 have e0:ρ' 0=ρ 0:=Agree.at hA 0 (by kernel_rfl)
 have e2:ρ' 2=ρ 2:=Agree.at hA 2 (by kernel_rfl)
 have e3:ρ' 3=ρ 3:=Agree.at hA 3 (by kernel_rfl)
 have h1:=hr (ρ' 4) w' hI
 rw [←e0,←e2,←e3] at h1
 exact b7_ok R (fun z4 w1=>J z4 w1∧μ z4 w1<μ (ρ' 4) w') ρ' w' h1
theorem l6_intro (R:EP) (x0 x2 x3 x4:Value) (w:World) (J:VP) (μ:Value→World→Nat) (h0:J x4 w)
  (hr:∀y4 w0,J y4 w0→∀C6:VP,(∀z4 w1,J z4 w1→μ z4 w1<μ y4 w0→C6 z4 w1)→b7 R C6 x0 x2 x3 y4 w0):l6 R x0 x2 x3 x4 w:=by
 unfold l6
 exact ⟨J,μ,h0,fun y4 w0 hJ=>hr y4 w0 hJ _ (fun z4 w1 h1 h2=>⟨h1,h2⟩)⟩
abbrev q15 (R:EP):XP:=QX (fun ρ w=>b3 R (ρ 2) (ρ 3) w) (fun ρ w=>LD Tryd.prog (Instr.loadAt 28 (ρ 2)) w fun r0=>R (.returned r0) w) []
theorem k5_ok (R:EP) (ρ:Env) (w:World) (h:l6 R (ρ 0) (ρ 2) (ρ 3) (ρ 4) w):codeP Tryd.prog (pan R) p2 (q15 R) ρ w:=by
 have e:Code.block 0 (blkC p2)=p2:=by kernel_rfl
 rw [←e]
 exact blockQ (l6_ok R ρ w h)

def b4 (R:EP) (x0 x2 x3:Value) (w:World) (_r:Tok R:=tok R):Prop :=
 l6 R x0 x2 x3 (Go.Value.int Go.IntKind.i64 0) w
abbrev q16 (R:EP):XP:=QX (fun ρ w=>l6 R (ρ 0) (ρ 2) (ρ 3) (ρ 4) w) (fun ρ w=>LD Tryd.prog (Instr.loadAt 28 (ρ 2)) w fun r0=>R (.returned r0) w) []
theorem b4_eq (R:EP) (ρ:Env) (w:World):(b4 R (ρ 0) (ρ 2) (ρ 3) w)=codeP Tryd.prog (pan R) (preC 0 (fstC p1)) (q16 R) ρ w:=by kernel_rfl
theorem b4_ok (R:EP) (ρ:Env) (w:World) (h:b4 R (ρ 0) (ρ 2) (ρ 3) w):codeP Tryd.prog (pan R) (fstC p1) (q15 R) ρ w:=by
 have e:appC 0 (preC 0 (fstC p1)) (dropC 1 (fstC p1))=(fstC p1):=by kernel_rfl
 rw [←e]
 exact appQ (fun ρ w=>l6 R (ρ 0) (ρ 2) (ρ 3) (ρ 4) w) 0 ((b4_eq R ρ w).mp h) (fun ρ w h=>k5_ok R ρ w h)
theorem k2_ok (R:EP) (ρ:Env) (w:World) (h:b4 R (ρ 0) (ρ 2) (ρ 3) w):codeP Tryd.prog (pan R) p1 (q1 R) ρ w:=by
 have e:Code.seq (fstC p1) (sndC p1)=p1:=by kernel_rfl
 rw [←e]
 exact seqQ (fun ρ w=>b3 R (ρ 2) (ρ 3) w) (b4_ok R ρ w h) (fun ρ w h=>b3_ok R ρ w h)
def b1_1 (R:EP) (x0 v1 v17 v32:Value) (w33:World) (_r:Tok R:=tok R):Prop :=
 RUN Tryd.prog (pan R) (Instr.fieldAt 28 v17 3) w33 fun v34 w35 =>
 RUNU Tryd.prog (pan R) (Instr.storeAt 3 v34 v32) w35 fun w36 =>
 b4 R x0 v1 v17 w36
def b1_2 (R:EP) (x0 v1 v17:Value) (w26:World) (_r:Tok R:=tok R):Prop :=
 NILC x0 fun v27 =>
 RUN Tryd.prog (pan R) (Instr.fieldAt 69 v27 7) w26 fun v28 w29 =>
 RUN Tryd.prog (pan R) (Instr.loadAt 9 v28) w29 fun v30 w31 =>
 CALL Tryd.prog (pan R) ref04_Text_non.id #[x0,v30] w31 fun v32 w33 =>
 b1_1 R x0 v1 v17 v32 w33

def b1 (R:EP) (x0:Value) (w:World) (_r:Tok R:=tok R):Prop :=
 RUN Tryd.prog (pan R) (Instr.alloc 28 true (.tuple #[])) w fun v1 w2 =>
 NILC x0 fun v3 =>
 PUR Tryd.prog (Instr.fieldAt 69 v3 2) fun v4 =>
 LD Tryd.prog (Instr.loadAt 23 v4) (World.drew w2) fun v5 =>
 NILC x0 fun v6 =>
 PUR Tryd.prog (Instr.fieldAt 69 v6 6) fun v7 =>
 LD Tryd.prog (Instr.loadAt 24 v7) (World.drew w2) fun v8 =>
 NILC x0 fun v9 =>
 PUR Tryd.prog (Instr.fieldAt 69 v9 3) fun v10 =>
 LD Tryd.prog (Instr.loadAt 25 v10) (World.drew w2) fun v11 =>
 NILC x0 fun v12 =>
 PUR Tryd.prog (Instr.fieldAt 69 v12 2) fun v13 =>
 LD Tryd.prog (Instr.loadAt 23 v13) (World.drew w2) fun v14 =>
 LD Tryd.prog (Builtin.len_ #[23] 3 #[v14]) (World.drew w2) fun v15 =>
 PUR Tryd.prog (Instr.build 28 #[(0,v5),(1,v8),(2,v11),(3,v15)]) fun v16 =>
 RUN Tryd.prog (pan R) (Instr.alloc 28 true (.tuple #[])) (World.drew w2) fun v17 w18 =>
 Sem.run Tryd.prog (Builtin.len_ #[23] 3 #[v14]) w18 = .ok v15 w18∧(Sem.run Tryd.prog (Instr.loadAt 23 v13) w18 = .ok v14 w18∧(Sem.run Tryd.prog (Instr.loadAt 25 v10) w18 = .ok v11 w18∧(Sem.run Tryd.prog (Instr.loadAt 24 v7) w18 = .ok v8 w18∧(Sem.run Tryd.prog (Instr.loadAt 23 v4) w18 = .ok v5 w18∧(RUNU Tryd.prog (pan R) (Instr.storeAt 28 v17 v16) w18 fun w19 =>
 NILC x0 fun v20 =>
 RUN Tryd.prog (pan R) (Instr.fieldAt 69 v20 7) w19 fun v21 w22 =>
 RUN Tryd.prog (pan R) (Instr.loadAt 9 v21) w22 fun v23 w24 =>
 RUN Tryd.prog (pan R) (bins .neq 9 (.tmp 30) (.const (Go.Value.string {data:=#[] })) v23 (Go.Value.string {data:=#[] })) w24 fun v25 w26 =>
 SPL v25
 (b1_2 R x0 v1 v17 w26)
 (b4 R x0 v1 v17 w26))))))
abbrev q17 (R:EP):XP:=QX (fun ρ w=>b4 R (ρ 0) (ρ 2) (ρ 3) w) (fun ρ w=>LD Tryd.prog (Instr.loadAt 28 (ρ 2)) w fun r0=>R (.returned r0) w) []
theorem b1_eq (R:EP) (ρ:Env) (w:World):(b1 R (ρ 0) w)=codeP Tryd.prog (pan R) (preC 2 code) (q17 R) ρ w:=by kernel_rfl
theorem b1_ok (R:EP) (ρ:Env) (w:World) (h:b1 R (ρ 0) w):codeP Tryd.prog (pan R) code (q1 R) ρ w:=by
 have e:appC 2 (preC 2 code) (dropC 3 code)=code:=by kernel_rfl
 rw [←e]
 exact appQ (fun ρ w=>b4 R (ρ 0) (ρ 2) (ρ 3) w) 2 ((b1_eq R ρ w).mp h) (fun ρ w h=>k2_ok R ρ w h)
/-- What is owed for a call. -/
def run (R:EP) (a0:Value) (w:World):Prop:=b1 R a0 w
theorem calls (R:EP) (a0:Value) (w:World) (h:run R a0 w):Calls Tryd.prog id #[a0] w R :=
 calls_of_c (f:=id) (fn:=Tryd.f32) (c:=code) (by kernel_rfl) Tryd.func32 (by kernel_rfl) (by kernel_rfl) (args:=[a0]) (Nat.le_of_ble_eq_true rfl) rfl (b1_ok R (envOf [a0]) w h)
theorem enters:Enters Tryd.prog id:=fun args w=>Tryd.call32 args w
theorem ct {a0:Value} {w:World} {S:VP} (h:∀R:EP,(∀v w,S v w→R (.returned v) w)→run R a0 w):Ct Tryd.prog id #[a0] w S :=
 Ct.intro enters fun R hR=>calls R a0 w (h R hR)
attribute [irreducible] b3 b9 b15 b14_1 b14 b13_1 b13_2 b13 b20 b19_1 b19_2 b19_3 b19 l18 b16 b11_1 b11 b7 l6 b4 b1_1 b1_2 b1 run
attribute [go_sem] b3 b9 b15 b14_1 b14 b13_1 b13_2 b13 b20 b19_1 b19_2 b19_3 b19 b16 b11_1 b11 b7 b4 b1_1 b1_2 b1 run
end ref04_Text_grammar

/-! ### (*presage/presageref04.Text).word -/
namespace ref04_Text_word
noncomputable def code:Code:=bodyOf Tryd.f54
noncomputable abbrev p1:Code:=dropC 2 code

def b3 (R:EP) (x0 x3:Value) (w:World) (_r:Tok R:=tok R):Prop :=
 RUN Tryd.prog (pan R) (Instr.loadAt 46 x3) w fun v1 w2 =>
 CALL Tryd.prog (pan R) ref04_Text_within.id #[x0,v1] w2 fun v3 w4 =>
 R (.returned v3) w4
abbrev q1 (R:EP):XP:=QX (fun ρ w=>R (.returned (ρ 4)) w) (fun ρ w=>R (.returned (ρ 4)) w) []
theorem b3_eq (R:EP) (ρ:Env) (w:World):(b3 R (ρ 0) (ρ 3) w)=codeP Tryd.prog (pan R) (sndC p1) (q1 R) ρ w:=by kernel_rfl
theorem b3_ok (R:EP) (ρ:Env) (w:World) (h:b3 R (ρ 0) (ρ 3) w):codeP Tryd.prog (pan R) (sndC p1) (q1 R) ρ w:=(b3_eq R ρ w).mp h
noncomputable abbrev p2:Code:=dropC 1 (fstC p1)
noncomputable abbrev p3:Code:=dropC 1 (blkC p2)
def b8_1 (R:EP) (x0 x3:Value) (w6:World) (_r:Tok R:=tok R):Prop :=
 RUN Tryd.prog (pan R) (Instr.loadAt 46 x3) w6 fun v7 w8 =>
 CALL Tryd.prog (pan R) ref04_Text_header.id #[x0,v7] w8 fun v9 w10 =>
 R (.returned v9) w10
def b8_2 (R:EP) (x0 x3:Value) (w6:World) (_r:Tok R:=tok R):Prop :=
 RUN Tryd.prog (pan R) (Instr.loadAt 46 x3) w6 fun v11 w12 =>
 CALL Tryd.prog (pan R) ref04_Text_begin.id #[x0,v11] w12 fun v13 w14 =>
 R (.returned v13) w14

def b8 (R:EP) (x0 x3:Value) (w:World) (_r:Tok R:=tok R):Prop :=
 RUN Tryd.prog (pan R) (Instr.fieldAt 46 x3 0) w fun v1 w2 =>
 RUN Tryd.prog (pan R) (Instr.loadAt 3 v1) w2 fun v3 w4 =>
 RUN Tryd.prog (pan R) (bins .eql 3 (.tmp 21) (.const (Go.Value.int Go.IntKind.i64 3)) v3 (Go.Value.int Go.IntKind.i64 3)) w4 fun v5 w6 =>
 SPL v5
 (b8_1 R x0 x3 w6)
 (b8_2 R x0 x3 w6)
abbrev q2 (R:EP):XP:=QX (fun ρ w=>b3 R (ρ 0) (ρ 3) w) (fun ρ w=>R (.returned (ρ 4)) w) [(0,(fun ρ w=>b3 R (ρ 0) (ρ 3) w))]
theorem b8_eq (R:EP) (ρ:Env) (w:World):(b8 R (ρ 0) (ρ 3) w)=codeP Tryd.prog (pan R) (thnC p3) (q2 R) ρ w:=by kernel_rfl
theorem b8_ok (R:EP) (ρ:Env) (w:World) (h:b8 R (ρ 0) (ρ 3) w):codeP Tryd.prog (pan R) (thnC p3) (q2 R) ρ w:=(b8_eq R ρ w).mp h
noncomputable abbrev p4:Code:=dropC 1 (elsC p3)
noncomputable abbrev p5:Code:=dropC 1 (thnC p4)

def b13 (R:EP) (x0:Value) (w:World) (_r:Tok R:=tok R):Prop :=
 NILC x0 fun v1 =>
 RUN Tryd.prog (pan R) (Instr.fieldAt 69 v1 0) w fun v2 w3 =>
 RUNU Tryd.prog (pan R) (Instr.storeAt 3 v2 (Go.Value.int Go.IntKind.i64 0)) w3 fun w4 =>
 R (.returned (Go.Value.bool Bool.true)) w4
theorem b13_eq (R:EP) (ρ:Env) (w:World):(b13 R (ρ 0) w)=codeP Tryd.prog (pan R) (sndC p5) (q2 R) ρ w:=by kernel_rfl
theorem b13_ok (R:EP) (ρ:Env) (w:World) (h:b13 R (ρ 0) w):codeP Tryd.prog (pan R) (sndC p5) (q2 R) ρ w:=(b13_eq R ρ w).mp h
noncomputable abbrev p6:Code:=dropC 1 (fstC p5)

def b15 (R:EP) (x0 x51:Value) (w:World) (_r:Tok R:=tok R):Prop :=
 SPL x51
 (R (.returned (Go.Value.bool Bool.false)) w)
 (b13 R x0 w)
abbrev q3 (R:EP):XP:=QX (fun ρ w=>b13 R (ρ 0) w) (fun ρ w=>R (.returned (ρ 4)) w) [(0,(fun ρ w=>b3 R (ρ 0) (ρ 3) w))]
theorem b15_eq (R:EP) (ρ:Env) (w:World):(b15 R (ρ 0) (ρ 51) w)=codeP Tryd.prog (pan R) p6 (q3 R) ρ w:=by kernel_rfl
theorem b15_ok (R:EP) (ρ:Env) (w:World) (h:b15 R (ρ 0) (ρ 51) w):codeP Tryd.prog (pan R) p6 (q3 R) ρ w:=(b15_eq R ρ w).mp h
def b14_1 (R:EP) (x0 x3:Value) (w13:World) (_r:Tok R:=tok R):Prop :=
 RUN Tryd.prog (pan R) (Instr.fieldAt 46 x3 1) w13 fun v14 w15 =>
 RUN Tryd.prog (pan R) (Instr.loadAt 9 v14) w15 fun v16 w17 =>
 RUN Tryd.prog (pan R) (bins .neq 9 (.tmp 49) (.const (Go.Value.string {data:=#[59] })) v16 (Go.Value.string {data:=#[59] })) w17 fun v18 w19 =>
 b15 R x0 v18 w19
def b14_2 (R:EP) (x0 x3:Value) (w7:World) (_r:Tok R:=tok R):Prop :=
 RUN Tryd.prog (pan R) (Instr.fieldAt 46 x3 0) w7 fun v8 w9 =>
 RUN Tryd.prog (pan R) (Instr.loadAt 3 v8) w9 fun v10 w11 =>
 RUN Tryd.prog (pan R) (bins .neq 3 (.tmp 44) (.const (Go.Value.int Go.IntKind.i64 4)) v10 (Go.Value.int Go.IntKind.i64 4)) w11 fun v12 w13 =>
 SPL v12
 (b15 R x0 (Go.Value.bool Bool.true) w13)
 (b14_1 R x0 x3 w13)

def b14 (R:EP) (x0 x3:Value) (w:World) (_r:Tok R:=tok R):Prop :=
 NILC x0 fun v1 =>
 RUN Tryd.prog (pan R) (Instr.fieldAt 69 v1 0) w fun v2 w3 =>
 RUN Tryd.prog (pan R) (Instr.loadAt 3 v2) w3 fun v4 w5 =>
 RUN Tryd.prog (pan R) (bins .eql 3 (.tmp 40) (.const (Go.Value.int Go.IntKind.i64 1)) v4 (Go.Value.int Go.IntKind.i64 1)) w5 fun v6 w7 =>
 SPL v6
 (b15 R x0 (Go.Value.bool Bool.true) w7)
 (b14_2 R x0 x3 w7)
abbrev q4 (R:EP):XP:=QX (fun ρ w=>b15 R (ρ 0) (ρ 51) w) (fun ρ w=>R (.returned (ρ 4)) w) [(0,(fun ρ w=>b3 R (ρ 0) (ρ 3) w))]
theorem b14_eq (R:EP) (ρ:Env) (w:World):(b14 R (ρ 0) (ρ 3) w)=codeP Tryd.prog (pan R) (preC 0 (fstC p5)) (q4 R) ρ w:=by kernel_rfl
theorem b14_ok (R:EP) (ρ:Env) (w:World) (h:b14 R (ρ 0) (ρ 3) w):codeP Tryd.prog (pan R) (fstC p5) (q3 R) ρ w:=by
 have e:appC 0 (preC 0 (fstC p5)) (dropC 1 (fstC p5))=(fstC p5):=by kernel_rfl
 rw [←e]
 exact appQ (fun ρ w=>b15 R (ρ 0) (ρ 51) w) 0 ((b14_eq R ρ w).mp h) (fun ρ w h=>b15_ok R ρ w h)
theorem k12_ok (R:EP) (ρ:Env) (w:World) (h:b14 R (ρ 0) (ρ 3) w):codeP Tryd.prog (pan R) p5 (q2 R) ρ w:=by
 have e:Code.seq (fstC p5) (sndC p5)=p5:=by kernel_rfl
 rw [←e]
 exact seqQ (fun ρ w=>b13 R (ρ 0) w) (b14_ok R ρ w h) (fun ρ w h=>b13_ok R ρ w h)
def b11_1 (R:EP) (x0 x3:Value) (w:World) (_r:Tok R:=tok R):Prop :=
 RUN Tryd.prog (pan R) (Instr.fieldAt 46 x3 1) w fun v1 w2 =>
 RUN Tryd.prog (pan R) (Instr.loadAt 9 v1) w2 fun v3 w4 =>
 CALL Tryd.prog (pan R) ref04_Text_listed.id #[x0,v3] w4 fun v5 w6 =>
 R (.returned v5) w6

def b11 (R:EP) (x0 x3 x5:Value) (w:World) (_r:Tok R:=tok R):Prop :=
 SPL x5
 (b11_1 R x0 x3 w)
 (b14 R x0 x3 w)
abbrev q5 (R:EP):XP:=QX (fun ρ w=>b14 R (ρ 0) (ρ 3) w) (fun ρ w=>R (.returned (ρ 4)) w) [(0,(fun ρ w=>b3 R (ρ 0) (ρ 3) w))]
theorem b11_eq (R:EP) (ρ:Env) (w:World):(b11 R (ρ 0) (ρ 3) (ρ 5) w)=codeP Tryd.prog (pan R) (preC 0 (thnC p4)) (q5 R) ρ w:=by kernel_rfl
theorem b11_ok (R:EP) (ρ:Env) (w:World) (h:b11 R (ρ 0) (ρ 3) (ρ 5) w):codeP Tryd.prog (pan R) (thnC p4) (q2 R) ρ w:=by
 have e:appC 0 (preC 0 (thnC p4)) (dropC 1 (thnC p4))=(thnC p4):=by kernel_rfl
 rw [←e]
 exact appQ (fun ρ w=>b14 R (ρ 0) (ρ 3) w) 0 ((b11_eq R ρ w).mp h) (fun ρ w h=>k12_ok R ρ w h)
def b16_1 (R:EP) (x0 x3:Value) (w2:World) (_r:Tok R:=tok R):Prop :=
 RUN Tryd.prog (pan R) (Instr.fieldAt 46 x3 1) w2 fun v3 w4 =>
 RUN Tryd.prog (pan R) (Instr.loadAt 9 v3) w4 fun v5 w6 =>
 NILC x0 fun v7 =>
 RUN Tryd.prog (pan R) (Instr.fieldAt 69 v7 7) w6 fun v8 w9 =>
 RUNU Tryd.prog (pan R) (Instr.storeAt 9 v8 v5) w9 fun w10 =>
 NILC x0 fun v11 =>
 RUN Tryd.prog (pan R) (Instr.fieldAt 69 v11 0) w10 fun v12 w13 =>
 RUNU Tryd.prog (pan R) (Instr.storeAt 3 v12 (Go.Value.int Go.IntKind.i64 4)) w13 fun w14 =>
 RUN Tryd.prog (pan R) (Instr.fieldAt 46 x3 0) w14 fun v15 w16 =>
 RUN Tryd.prog (pan R) (Instr.loadAt 3 v15) w16 fun v17 w18 =>
 RUN Tryd.prog (pan R) (bins .eql 3 (.tmp 66) (.const (Go.Value.int Go.IntKind.i64 1)) v17 (Go.Value.int Go.IntKind.i64 1)) w18 fun v19 w20 =>
 R (.returned v19) w20
def b16_2 (R:EP) (x3:Value) (w32:World) (_r:Tok R:=tok R):Prop :=
 RUN Tryd.prog (pan R) (Instr.fieldAt 46 x3 1) w32 fun v33 w34 =>
 RUN Tryd.prog (pan R) (Instr.loadAt 9 v33) w34 fun v35 w36 =>
 RUN Tryd.prog (pan R) (bins .eql 9 (.tmp 78) (.const (Go.Value.string {data:=#[59] })) v35 (Go.Value.string {data:=#[59] })) w36 fun v37 w38 =>
 R (.returned v37) w38
def b16_3 (R:EP) (x0 x3:Value) (w22:World) (_r:Tok R:=tok R):Prop :=
 NILC x0 fun v23 =>
 RUN Tryd.prog (pan R) (Instr.fieldAt 69 v23 0) w22 fun v24 w25 =>
 RUNU Tryd.prog (pan R) (Instr.storeAt 3 v24 (Go.Value.int Go.IntKind.i64 0)) w25 fun w26 =>
 RUN Tryd.prog (pan R) (Instr.fieldAt 46 x3 0) w26 fun v27 w28 =>
 RUN Tryd.prog (pan R) (Instr.loadAt 3 v27) w28 fun v29 w30 =>
 RUN Tryd.prog (pan R) (bins .eql 3 (.tmp 74) (.const (Go.Value.int Go.IntKind.i64 4)) v29 (Go.Value.int Go.IntKind.i64 4)) w30 fun v31 w32 =>
 SPL v31
 (b16_2 R x3 w32)
 (R (.returned (Go.Value.bool Bool.false)) w32)
def b16_4 (R:EP) (x3:Value) (w48:World) (_r:Tok R:=tok R):Prop :=
 RUN Tryd.prog (pan R) (Instr.fieldAt 46 x3 1) w48 fun v49 w50 =>
 RUN Tryd.prog (pan R) (Instr.loadAt 9 v49) w50 fun v51 w52 =>
 RUN Tryd.prog (pan R) (bins .eql 9 (.tmp 90) (.const (Go.Value.string {data:=#[58] })) v51 (Go.Value.string {data:=#[58] })) w52 fun v53 w54 =>
 R (.returned v53) w54
def b16_5 (R:EP) (x3:Value) (w42:World) (_r:Tok R:=tok R):Prop :=
 RUN Tryd.prog (pan R) (Instr.fieldAt 46 x3 0) w42 fun v43 w44 =>
 RUN Tryd.prog (pan R) (Instr.loadAt 3 v43) w44 fun v45 w46 =>
 RUN Tryd.prog (pan R) (bins .eql 3 (.tmp 86) (.const (Go.Value.int Go.IntKind.i64 4)) v45 (Go.Value.int Go.IntKind.i64 4)) w46 fun v47 w48 =>
 SPL v47
 (b16_4 R x3 w48)
 (R (.returned (Go.Value.bool Bool.false)) w48)
def b16_6 (R:EP) (x0 x3 x5:Value) (w56:World) (_r:Tok R:=tok R):Prop :=
 NILC x0 fun v57 =>
 PUR Tryd.prog (Instr.fieldAt 69 v57 4) fun v58 =>
 LD Tryd.prog (Instr.loadAt 67 v58) (World.drew w56) fun v59 =>
 NILC x0 fun v60 =>
 PUR Tryd.prog (Instr.fieldAt 69 v60 4) fun v61 =>
 LD Tryd.prog (Instr.loadAt 67 v61) (World.drew w56) fun v62 =>
 LD Tryd.prog (Builtin.len_ #[67] 3 #[v62]) (World.drew w56) fun v63 =>
 PUR Tryd.prog (bins .sub 3 (.tmp 103) (.const (Go.Value.int Go.IntKind.i64 1)) v63 (Go.Value.int Go.IntKind.i64 1)) fun v64 =>
 PUR Tryd.prog (Instr.fieldAt 46 x3 1) fun v65 =>
 LD Tryd.prog (Instr.loadAt 9 v65) (World.drew w56) fun v66 =>
 PUR Tryd.prog (Instr.indexAt 67 v59 v64) fun v67 =>
 PUR Tryd.prog (Instr.fieldAt 124 v67 3) fun v68 =>
 RUNU Tryd.prog (pan R) (Instr.storeAt 9 v68 v66) (World.drew w56) fun w69 =>
 NILC x0 fun v70 =>
 RUN Tryd.prog (pan R) (Instr.fieldAt 69 v70 0) w69 fun v71 w72 =>
 RUNU Tryd.prog (pan R) (Instr.storeAt 3 v71 (Go.Value.int Go.IntKind.i64 8)) w72 fun w73 =>
 R (.returned x5) w73
def b16_7 (R:EP) (x0 x3:Value) (w75:World) (_r:Tok R:=tok R):Prop :=
 RUN Tryd.prog (pan R) (Instr.loadAt 46 x3) w75 fun v76 w77 =>
 CALL Tryd.prog (pan R) ref04_Text_begin.id #[x0,v76] w77 fun v78 w79 =>
 R (.returned v78) w79
def b16_8 (R:EP) (x0 x3 x5 x17:Value) (w40:World) (_r:Tok R:=tok R):Prop :=
 RUN Tryd.prog (pan R) (bins .eql 3 (.tmp 17) (.const (Go.Value.int Go.IntKind.i64 7)) x17 (Go.Value.int Go.IntKind.i64 7)) w40 fun v55 w56 =>
 SPL v55
 (b16_6 R x0 x3 x5 w56)
 (RUN Tryd.prog (pan R) (bins .eql 3 (.tmp 17) (.const (Go.Value.int Go.IntKind.i64 9)) x17 (Go.Value.int Go.IntKind.i64 9)) w56 fun v74 w75 =>
 SPL v74
 (b16_7 R x0 x3 w75)
 (b3 R x0 x3 w75))
def b16_9 (R:EP) (x0 x3 x5 x17:Value) (w22:World) (_r:Tok R:=tok R):Prop :=
 RUN Tryd.prog (pan R) (bins .eql 3 (.tmp 17) (.const (Go.Value.int Go.IntKind.i64 5)) x17 (Go.Value.int Go.IntKind.i64 5)) w22 fun v39 w40 =>
 SPL v39
 (CALL Tryd.prog (pan R) ref04_Text_another.id #[x0] w40 fun v41 w42 =>
 b16_5 R x3 w42)
 (b16_8 R x0 x3 x5 x17 w40)

def b16 (R:EP) (x0 x3 x5 x17:Value) (w:World) (_r:Tok R:=tok R):Prop :=
 RUN Tryd.prog (pan R) (bins .eql 3 (.tmp 17) (.const (Go.Value.int Go.IntKind.i64 3)) x17 (Go.Value.int Go.IntKind.i64 3)) w fun v1 w2 =>
 SPL v1
 (b16_1 R x0 x3 w2)
 (RUN Tryd.prog (pan R) (bins .eql 3 (.tmp 17) (.const (Go.Value.int Go.IntKind.i64 4)) x17 (Go.Value.int Go.IntKind.i64 4)) w2 fun v21 w22 =>
 SPL v21
 (b16_3 R x0 x3 w22)
 (b16_9 R x0 x3 x5 x17 w22))
theorem b16_eq (R:EP) (ρ:Env) (w:World):(b16 R (ρ 0) (ρ 3) (ρ 5) (ρ 17) w)=codeP Tryd.prog (pan R) (elsC p4) (q2 R) ρ w:=by kernel_rfl
theorem b16_ok (R:EP) (ρ:Env) (w:World) (h:b16 R (ρ 0) (ρ 3) (ρ 5) (ρ 17) w):codeP Tryd.prog (pan R) (elsC p4) (q2 R) ρ w:=(b16_eq R ρ w).mp h

def b10 (R:EP) (x0 x3 x5 x17 x29:Value) (w:World) (_r:Tok R:=tok R):Prop :=
 SPL x29 (b11 R x0 x3 x5 w) (b16 R x0 x3 x5 x17 w)
theorem b10_ok (R:EP) (ρ:Env) (w:World) (h:b10 R (ρ 0) (ρ 3) (ρ 5) (ρ 17) (ρ 29) w):codeP Tryd.prog (pan R) p4 (q2 R) ρ w:=by
 have e:Code.cond (.tmp 29) (thnC p4) (elsC p4)=p4:=by kernel_rfl
 rw [←e]
 exact condQ' h (fun h=>b11_ok R ρ w h) (fun h=>b16_ok R ρ w h)

def b9 (R:EP) (x0 x3 x5 x17:Value) (w:World) (_r:Tok R:=tok R):Prop :=
 RUN Tryd.prog (pan R) (bins .eql 3 (.tmp 17) (.const (Go.Value.int Go.IntKind.i64 1)) x17 (Go.Value.int Go.IntKind.i64 1)) w fun v1 w2 =>
 SPL v1
 (b10 R x0 x3 x5 x17 v1 w2)
 (RUN Tryd.prog (pan R) (bins .eql 3 (.tmp 17) (.const (Go.Value.int Go.IntKind.i64 2)) x17 (Go.Value.int Go.IntKind.i64 2)) w2 fun v3 w4 =>
 b10 R x0 x3 x5 x17 v3 w4)
abbrev q6 (R:EP):XP:=QX (fun ρ w=>b10 R (ρ 0) (ρ 3) (ρ 5) (ρ 17) (ρ 29) w) (fun ρ w=>R (.returned (ρ 4)) w) [(0,(fun ρ w=>b3 R (ρ 0) (ρ 3) w))]
theorem b9_eq (R:EP) (ρ:Env) (w:World):(b9 R (ρ 0) (ρ 3) (ρ 5) (ρ 17) w)=codeP Tryd.prog (pan R) (preC 0 (elsC p3)) (q6 R) ρ w:=by kernel_rfl
theorem b9_ok (R:EP) (ρ:Env) (w:World) (h:b9 R (ρ 0) (ρ 3) (ρ 5) (ρ 17) w):codeP Tryd.prog (pan R) (elsC p3) (q2 R) ρ w:=by
 have e:appC 0 (preC 0 (elsC p3)) (dropC 1 (elsC p3))=(elsC p3):=by kernel_rfl
 rw [←e]
 exact appQ (fun ρ w=>b10 R (ρ 0) (ρ 3) (ρ 5) (ρ 17) (ρ 29) w) 0 ((b9_eq R ρ w).mp h) (fun ρ w h=>b10_ok R ρ w h)

def b7 (R:EP) (x0 x3 x5 x17 x18:Value) (w:World) (_r:Tok R:=tok R):Prop :=
 SPL x18 (b8 R x0 x3 w) (b9 R x0 x3 x5 x17 w)
theorem b7_ok (R:EP) (ρ:Env) (w:World) (h:b7 R (ρ 0) (ρ 3) (ρ 5) (ρ 17) (ρ 18) w):codeP Tryd.prog (pan R) p3 (q2 R) ρ w:=by
 have e:Code.cond (.tmp 18) (thnC p3) (elsC p3)=p3:=by kernel_rfl
 rw [←e]
 exact condQ' h (fun h=>b8_ok R ρ w h) (fun h=>b9_ok R ρ w h)

def b6 (R:EP) (x0 x3 x5 x17:Value) (w:World) (_r:Tok R:=tok R):Prop :=
 RUN Tryd.prog (pan R) (bins .eql 3 (.tmp 17) (.const (Go.Value.int Go.IntKind.i64 0)) x17 (Go.Value.int Go.IntKind.i64 0)) w fun v1 w2 =>
 b7 R x0 x3 x5 x17 v1 w2
abbrev q7 (R:EP):XP:=QX (fun ρ w=>b7 R (ρ 0) (ρ 3) (ρ 5) (ρ 17) (ρ 18) w) (fun ρ w=>R (.returned (ρ 4)) w) [(0,(fun ρ w=>b3 R (ρ 0) (ρ 3) w))]
theorem b6_eq (R:EP) (ρ:Env) (w:World):(b6 R (ρ 0) (ρ 3) (ρ 5) (ρ 17) w)=codeP Tryd.prog (pan R) (preC 0 (blkC p2)) (q7 R) ρ w:=by kernel_rfl
theorem b6_ok (R:EP) (ρ:Env) (w:World) (h:b6 R (ρ 0) (ρ 3) (ρ 5) (ρ 17) w):codeP Tryd.prog (pan R) (blkC p2) (q2 R) ρ w:=by
 have e:appC 0 (preC 0 (blkC p2)) (dropC 1 (blkC p2))=(blkC p2):=by kernel_rfl
 rw [←e]
 exact appQ (fun ρ w=>b7 R (ρ 0) (ρ 3) (ρ 5) (ρ 17) (ρ 18) w) 0 ((b6_eq R ρ w).mp h) (fun ρ w h=>b7_ok R ρ w h)
abbrev q8 (R:EP):XP:=QX (fun ρ w=>b3 R (ρ 0) (ρ 3) w) (fun ρ w=>R (.returned (ρ 4)) w) []
theorem k5_ok (R:EP) (ρ:Env) (w:World) (h:b6 R (ρ 0) (ρ 3) (ρ 5) (ρ 17) w):codeP Tryd.prog (pan R) p2 (q8 R) ρ w:=by
 have e:Code.block 0 (blkC p2)=p2:=by kernel_rfl
 rw [←e]
 exact blockQ (b6_ok R ρ w h)

def b4 (R:EP) (x0 x3 x5:Value) (w:World) (_r:Tok R:=tok R):Prop :=
 NILC x0 fun v1 =>
 RUN Tryd.prog (pan R) (Instr.fieldAt 69 v1 0) w fun v2 w3 =>
 RUN Tryd.prog (pan R) (Instr.loadAt 3 v2) w3 fun v4 w5 =>
 b6 R x0 x3 x5 v4 w5
abbrev q9 (R:EP):XP:=QX (fun ρ w=>b6 R (ρ 0) (ρ 3) (ρ 5) (ρ 17) w) (fun ρ w=>R (.returned (ρ 4)) w) []
theorem b4_eq (R:EP) (ρ:Env) (w:World):(b4 R (ρ 0) (ρ 3) (ρ 5) w)=codeP Tryd.prog (pan R) (preC 0 (fstC p1)) (q9 R) ρ w:=by kernel_rfl
theorem b4_ok (R:EP) (ρ:Env) (w:World) (h:b4 R (ρ 0) (ρ 3) (ρ 5) w):codeP Tryd.prog (pan R) (fstC p1) (q8 R) ρ w:=by
 have e:appC 0 (preC 0 (fstC p1)) (dropC 1 (fstC p1))=(fstC p1):=by kernel_rfl
 rw [←e]
 exact appQ (fun ρ w=>b6 R (ρ 0) (ρ 3) (ρ 5) (ρ 17) w) 0 ((b4_eq R ρ w).mp h) (fun ρ w h=>k5_ok R ρ w h)
theorem k2_ok (R:EP) (ρ:Env) (w:World) (h:b4 R (ρ 0) (ρ 3) (ρ 5) w):codeP Tryd.prog (pan R) p1 (q1 R) ρ w:=by
 have e:Code.seq (fstC p1) (sndC p1)=p1:=by kernel_rfl
 rw [←e]
 exact seqQ (fun ρ w=>b3 R (ρ 0) (ρ 3) w) (b4_ok R ρ w h) (fun ρ w h=>b3_ok R ρ w h)
def b1_1 (R:EP) (x0 v1:Value) (w8:World) (_r:Tok R:=tok R):Prop :=
 RUN Tryd.prog (pan R) (Instr.fieldAt 46 v1 0) w8 fun v9 w10 =>
 RUN Tryd.prog (pan R) (Instr.loadAt 3 v9) w10 fun v11 w12 =>
 RUN Tryd.prog (pan R) (bins .eql 3 (.tmp 11) (.const (Go.Value.int Go.IntKind.i64 2)) v11 (Go.Value.int Go.IntKind.i64 2)) w12 fun v13 w14 =>
 b4 R x0 v1 v13 w14

def b1 (R:EP) (x0 x1:Value) (w:World) (_r:Tok R:=tok R):Prop :=
 RUN Tryd.prog (pan R) (Instr.box 46 x1) w fun v1 w2 =>
 RUN Tryd.prog (pan R) (Instr.fieldAt 46 v1 0) w2 fun v3 w4 =>
 RUN Tryd.prog (pan R) (Instr.loadAt 3 v3) w4 fun v5 w6 =>
 RUN Tryd.prog (pan R) (bins .eql 3 (.tmp 7) (.const (Go.Value.int Go.IntKind.i64 1)) v5 (Go.Value.int Go.IntKind.i64 1)) w6 fun v7 w8 =>
 SPL v7
 (b4 R x0 v1 (Go.Value.bool Bool.true) w8)
 (b1_1 R x0 v1 w8)
abbrev q10 (R:EP):XP:=QX (fun ρ w=>b4 R (ρ 0) (ρ 3) (ρ 5) w) (fun ρ w=>R (.returned (ρ 4)) w) []
theorem b1_eq (R:EP) (ρ:Env) (w:World):(b1 R (ρ 0) (ρ 1) w)=codeP Tryd.prog (pan R) (preC 1 code) (q10 R) ρ w:=by kernel_rfl
theorem b1_ok (R:EP) (ρ:Env) (w:World) (h:b1 R (ρ 0) (ρ 1) w):codeP Tryd.prog (pan R) code (q1 R) ρ w:=by
 have e:appC 1 (preC 1 code) (dropC 2 code)=code:=by kernel_rfl
 rw [←e]
 exact appQ (fun ρ w=>b4 R (ρ 0) (ρ 3) (ρ 5) w) 1 ((b1_eq R ρ w).mp h) (fun ρ w h=>k2_ok R ρ w h)
/-- What is owed for a call. -/
def run (R:EP) (a0 a1:Value) (w:World):Prop:=b1 R a0 a1 w
theorem calls (R:EP) (a0 a1:Value) (w:World) (h:run R a0 a1 w):Calls Tryd.prog id #[a0,a1] w R :=
 calls_of_t (f:=id) (fn:=Tryd.f54) (c:=code) (by kernel_rfl) Tryd.func54 (by kernel_rfl) (by kernel_rfl) (args:=[a0,a1]) (Nat.le_of_ble_eq_true rfl) rfl (b1_ok R (envOf [a0,a1]) w h)
theorem enters:Enters Tryd.prog id:=fun args w=>Tryd.call54 args w
theorem ct {a0 a1:Value} {w:World} {S:VP} (h:∀R:EP,(∀v w,S v w→R (.returned v) w)→run R a0 a1 w):Ct Tryd.prog id #[a0,a1] w S :=
 Ct.intro enters fun R hR=>calls R a0 a1 w (h R hR)
attribute [irreducible] b3 b8_1 b8_2 b8 b13 b15 b14_1 b14_2 b14 b11_1 b11 b16_1 b16_2 b16_3 b16_4 b16_5 b16_6 b16_7 b16_8 b16_9 b16 b10 b9 b7 b6 b4 b1_1 b1 run
attribute [go_sem] b3 b8_1 b8_2 b8 b13 b15 b14_1 b14_2 b14 b11_1 b11 b16_1 b16_2 b16_3 b16_4 b16_5 b16_6 b16_7 b16_8 b16_9 b16 b10 b9 b7 b6 b4 b1_1 b1 run
end ref04_Text_word

/-! ### (*presage/presageref04.Text).isNon -/
namespace ref04_Text_isNon
noncomputable def code:Code:=bodyOf Tryd.f56
def b1_1 (R:EP) (v1:Value) (w9:World) (_r:Tok R:=tok R):Prop :=
 RUN Tryd.prog (pan R) (Instr.fieldAt 46 v1 0) w9 fun v10 w11 =>
 RUN Tryd.prog (pan R) (Instr.loadAt 3 v10) w11 fun v12 w13 =>
 RUN Tryd.prog (pan R) (bins .eql 3 (.tmp 16) (.const (Go.Value.int Go.IntKind.i64 1)) v12 (Go.Value.int Go.IntKind.i64 1)) w13 fun v14 w15 =>
 R (.returned v14) w15
def b1 (R:EP) (x0 x1:Value) (w:World) (_r:Tok R:=tok R):Prop :=
 RUN Tryd.prog (pan R) (Instr.box 46 x1) w fun v1 w2 =>
 NILC x0 fun v3 =>
 PUR Tryd.prog (Instr.fieldAt 69 v3 6) fun v4 =>
 LD Tryd.prog (Instr.loadAt 24 v4) (World.drew w2) fun v5 =>
 PUR Tryd.prog (Instr.fieldAt 46 v1 1) fun v6 =>
 LD Tryd.prog (Instr.loadAt 9 v6) (World.drew w2) fun v7 =>
 CALL Tryd.prog (pan R) ref04_has.id #[v5,v7] (World.drew w2) fun v8 w9 =>
 SPL v8
 (b1_1 R v1 w9)
 (R (.returned (Go.Value.bool Bool.false)) w9)
abbrev q1 (R:EP):XP:=QX (fun ρ w=>R (.returned (ρ 4)) w) (fun ρ w=>R (.returned (ρ 4)) w) []
theorem b1_eq (R:EP) (ρ:Env) (w:World):(b1 R (ρ 0) (ρ 1) w)=codeP Tryd.prog (pan R) code (q1 R) ρ w:=by kernel_rfl
theorem b1_ok (R:EP) (ρ:Env) (w:World) (h:b1 R (ρ 0) (ρ 1) w):codeP Tryd.prog (pan R) code (q1 R) ρ w:=(b1_eq R ρ w).mp h
/-- What is owed for a call. -/
def run (R:EP) (a0 a1:Value) (w:World):Prop:=b1 R a0 a1 w
theorem calls (R:EP) (a0 a1:Value) (w:World) (h:run R a0 a1 w):Calls Tryd.prog id #[a0,a1] w R :=
 calls_of_t (f:=id) (fn:=Tryd.f56) (c:=code) (by kernel_rfl) Tryd.func56 (by kernel_rfl) (by kernel_rfl) (args:=[a0,a1]) (Nat.le_of_ble_eq_true rfl) rfl (b1_ok R (envOf [a0,a1]) w h)
theorem enters:Enters Tryd.prog id:=fun args w=>Tryd.call56 args w
theorem ct {a0 a1:Value} {w:World} {S:VP} (h:∀R:EP,(∀v w,S v w→R (.returned v) w)→run R a0 a1 w):Ct Tryd.prog id #[a0,a1] w S :=
 Ct.intro enters fun R hR=>calls R a0 a1 w (h R hR)
attribute [irreducible] b1_1 b1 run
attribute [go_sem] b1_1 b1 run
end ref04_Text_isNon

/-! ### (*presage/presageref04.Text).non -/
namespace ref04_Text_non
noncomputable def code:Code:=bodyOf Tryd.f58
noncomputable abbrev p1:Code:=dropC 1 code

def b3 (R:EP) (w:World) (_r:Tok R:=tok R):Prop :=
 R (.returned (Go.Value.int Go.IntKind.i64 (-1))) w
abbrev q1 (R:EP):XP:=QX (fun ρ w=>R (.returned (ρ 4)) w) (fun ρ w=>R (.returned (ρ 4)) w) []
theorem b3_eq (R:EP) (ρ:Env) (w:World):(b3 R w)=codeP Tryd.prog (pan R) (sndC p1) (q1 R) ρ w:=by kernel_rfl
theorem b3_ok (R:EP) (ρ:Env) (w:World) (h:b3 R w):codeP Tryd.prog (pan R) (sndC p1) (q1 R) ρ w:=(b3_eq R ρ w).mp h
noncomputable abbrev p2:Code:=dropC 1 (fstC p1)
noncomputable abbrev p3:Code:=loopC (blkC p2)
def b7_1 (R:EP) (x0 x5:Value) (w20:World) (_r:Tok R:=tok R):Prop :=
 NILC x0 fun v21 =>
 RUN Tryd.prog (pan R) (Instr.fieldAt 69 v21 2) w20 fun v22 w23 =>
 RUN Tryd.prog (pan R) (Instr.loadAt 23 v22) w23 fun v24 w25 =>
 RUN Tryd.prog (pan R) (Builtin.len_ #[23] 3 #[v24]) w25 fun v26 w27 =>
 RUN Tryd.prog (pan R) (bins .add 3 (.tmp 28) (.tmp 29) v26 x5) w27 fun v28 w29 =>
 R (.returned v28) w29
def b7_2 (R:EP) (C6:VP) (x0 x1 x5:Value) (w9:World) (_r:Tok R:=tok R) (_C6:Tok C6:=tok C6):Prop :=
 NILC x0 fun v10 =>
 RUN Tryd.prog (pan R) (Instr.fieldAt 69 v10 6) w9 fun v11 w12 =>
 RUN Tryd.prog (pan R) (Instr.loadAt 24 v11) w12 fun v13 w14 =>
 RUN Tryd.prog (pan R) (Instr.indexAt 24 v13 x5) w14 fun v15 w16 =>
 RUN Tryd.prog (pan R) (Instr.loadAt 9 v15) w16 fun v17 w18 =>
 RUN Tryd.prog (pan R) (bins .eql 9 (.tmp 21) (.tmp 22) v17 x1) w18 fun v19 w20 =>
 SPL v19
 (b7_1 R x0 x5 w20)
 (RUN Tryd.prog (pan R) (bins .add 3 (.tmp 13) (.const (Go.Value.int Go.IntKind.i64 1)) x5 (Go.Value.int Go.IntKind.i64 1)) w20 fun v30 w31 =>
 C6 v30 w31)
def b7 (R:EP) (C6:VP) (x0 x1 x5:Value) (w:World) (_r:Tok R:=tok R) (_C6:Tok C6:=tok C6):Prop :=
 NILC x0 fun v1 =>
 RUN Tryd.prog (pan R) (Instr.fieldAt 69 v1 6) w fun v2 w3 =>
 RUN Tryd.prog (pan R) (Instr.loadAt 24 v2) w3 fun v4 w5 =>
 RUN Tryd.prog (pan R) (Builtin.len_ #[24] 3 #[v4]) w5 fun v6 w7 =>
 RUN Tryd.prog (pan R) (bins .lss 3 (.tmp 6) (.tmp 11) x5 v6) w7 fun v8 w9 =>
 SPL v8
 (b7_2 R C6 x0 x1 x5 w9)
 (b3 R w9)
abbrev q2 (R:EP) (C6:VP):XP:=QX (fun ρ w=>C6 (ρ 5) w) (fun ρ w=>R (.returned (ρ 4)) w) [(0,(fun ρ w=>b3 R  w))]
theorem b7_eq (R:EP) (C6:VP) (ρ:Env) (w:World):(b7 R C6 (ρ 0) (ρ 1) (ρ 5) w)=codeP Tryd.prog (pan R) p3 (q2 R C6) ρ w:=by kernel_rfl
theorem b7_ok (R:EP) (C6:VP) (ρ:Env) (w:World) (h:b7 R C6 (ρ 0) (ρ 1) (ρ 5) w):codeP Tryd.prog (pan R) p3 (q2 R C6) ρ w:=(b7_eq R C6 ρ w).mp h
def l6 (R:EP) (x0 x1 x5:Value) (w:World) (_r:Tok R:=tok R):Prop :=
 ∃(J:VP) (μ:Value→World→Nat),J x5 w∧∀y5 w0,J y5 w0→b7 R (fun z5 w1=>J z5 w1∧μ z5 w1<μ y5 w0) x0 x1 y5 w0
abbrev q3 (R:EP):XP:=QX (fun ρ w=>b3 R  w) (fun ρ w=>R (.returned (ρ 4)) w) [(0,(fun ρ w=>b3 R  w))]
theorem l6_ok (R:EP) (ρ:Env) (w:World) (h:l6 R (ρ 0) (ρ 1) (ρ 5) w):codeP Tryd.prog (pan R) (blkC p2) (q3 R) ρ w:=by
 unfold l6 at h
 obtain ⟨J,μ,h0,hr⟩:=h
 have e:Code.loop (loopC (blkC p2))=(blkC p2):=by kernel_rfl
 rw [←e]
 refine loopQ (fun ρ' w'=>J (ρ' 5) w') (fun ρ' w'=>μ (ρ' 5) w') h0 fun ρ' w' hA hI=>?_
 have e0:ρ' 0=ρ 0:=Agree.at hA 0 (by kernel_rfl)
 have e1:ρ' 1=ρ 1:=Agree.at hA 1 (by kernel_rfl)
 have h1:=hr (ρ' 5) w' hI
 rw [←e0,←e1] at h1
 exact b7_ok R (fun z5 w1=>J z5 w1∧μ z5 w1<μ (ρ' 5) w') ρ' w' h1
theorem l6_intro (R:EP) (x0 x1 x5:Value) (w:World) (J:VP) (μ:Value→World→Nat) (h0:J x5 w)
  (hr:∀y5 w0,J y5 w0→∀C6:VP,(∀z5 w1,J z5 w1→μ z5 w1<μ y5 w0→C6 z5 w1)→b7 R C6 x0 x1 y5 w0):l6 R x0 x1 x5 w:=by
 unfold l6
 exact ⟨J,μ,h0,fun y5 w0 hJ=>hr y5 w0 hJ _ (fun z5 w1 h1 h2=>⟨h1,h2⟩)⟩
abbrev q4 (R:EP):XP:=QX (fun ρ w=>b3 R  w) (fun ρ w=>R (.returned (ρ 4)) w) []
theorem k5_ok (R:EP) (ρ:Env) (w:World) (h:l6 R (ρ 0) (ρ 1) (ρ 5) w):codeP Tryd.prog (pan R) p2 (q4 R) ρ w:=by
 have e:Code.block 0 (blkC p2)=p2:=by kernel_rfl
 rw [←e]
 exact blockQ (l6_ok R ρ w h)
def b4 (R:EP) (x0 x1:Value) (w:World) (_r:Tok R:=tok R):Prop :=
 l6 R x0 x1 (Go.Value.int Go.IntKind.i64 0) w
abbrev q5 (R:EP):XP:=QX (fun ρ w=>l6 R (ρ 0) (ρ 1) (ρ 5) w) (fun ρ w=>R (.returned (ρ 4)) w) []
theorem b4_eq (R:EP) (ρ:Env) (w:World):(b4 R (ρ 0) (ρ 1) w)=codeP Tryd.prog (pan R) (preC 0 (fstC p1)) (q5 R) ρ w:=by kernel_rfl
theorem b4_ok (R:EP) (ρ:Env) (w:World) (h:b4 R (ρ 0) (ρ 1) w):codeP Tryd.prog (pan R) (fstC p1) (q4 R) ρ w:=by
 have e:appC 0 (preC 0 (fstC p1)) (dropC 1 (fstC p1))=(fstC p1):=by kernel_rfl
 rw [←e]
 exact appQ (fun ρ w=>l6 R (ρ 0) (ρ 1) (ρ 5) w) 0 ((b4_eq R ρ w).mp h) (fun ρ w h=>k5_ok R ρ w h)
theorem k2_ok (R:EP) (ρ:Env) (w:World) (h:b4 R (ρ 0) (ρ 1) w):codeP Tryd.prog (pan R) p1 (q1 R) ρ w:=by
 have e:Code.seq (fstC p1) (sndC p1)=p1:=by kernel_rfl
 rw [←e]
 exact seqQ (fun ρ w=>b3 R  w) (b4_ok R ρ w h) (fun ρ w h=>b3_ok R ρ w h)
def b1 (R:EP) (x0 x1:Value) (w:World) (_r:Tok R:=tok R):Prop :=
 b4 R x0 x1 w
abbrev q6 (R:EP):XP:=QX (fun ρ w=>b4 R (ρ 0) (ρ 1) w) (fun ρ w=>R (.returned (ρ 4)) w) []
theorem b1_eq (R:EP) (ρ:Env) (w:World):(b1 R (ρ 0) (ρ 1) w)=codeP Tryd.prog (pan R) (preC 0 code) (q6 R) ρ w:=by kernel_rfl
theorem b1_ok (R:EP) (ρ:Env) (w:World) (h:b1 R (ρ 0) (ρ 1) w):codeP Tryd.prog (pan R) code (q1 R) ρ w:=by
 have e:appC 0 (preC 0 code) (dropC 1 code)=code:=by kernel_rfl
 rw [←e]
 exact appQ (fun ρ w=>b4 R (ρ 0) (ρ 1) w) 0 ((b1_eq R ρ w).mp h) (fun ρ w h=>k2_ok R ρ w h)
/-- What is owed for a call. -/
def run (R:EP) (a0 a1:Value) (w:World):Prop:=b1 R a0 a1 w
theorem calls (R:EP) (a0 a1:Value) (w:World) (h:run R a0 a1 w):Calls Tryd.prog id #[a0,a1] w R :=
 calls_of_t (f:=id) (fn:=Tryd.f58) (c:=code) (by kernel_rfl) Tryd.func58 (by kernel_rfl) (by kernel_rfl) (args:=[a0,a1]) (Nat.le_of_ble_eq_true rfl) rfl (b1_ok R (envOf [a0,a1]) w h)
theorem enters:Enters Tryd.prog id:=fun args w=>Tryd.call58 args w
theorem ct {a0 a1:Value} {w:World} {S:VP} (h:∀R:EP,(∀v w,S v w→R (.returned v) w)→run R a0 a1 w):Ct Tryd.prog id #[a0,a1] w S :=
 Ct.intro enters fun R hR=>calls R a0 a1 w (h R hR)
attribute [irreducible] b3 b7_1 b7_2 b7 l6 b4 b1 run
attribute [go_sem] b3 b7_1 b7_2 b7 b4 b1 run
end ref04_Text_non

/-! ### (*presage/presageref04.Text).symbol -/
namespace ref04_Text_symbol
noncomputable def code:Code:=bodyOf Tryd.f59
def b1_1 (R:EP) (x0 v1:Value) (w8:World) (_r:Tok R:=tok R):Prop :=
 RUN Tryd.prog (pan R) (Instr.fieldAt 46 v1 1) w8 fun v9 w10 =>
 RUN Tryd.prog (pan R) (Instr.loadAt 9 v9) w10 fun v11 w12 =>
 CALL Tryd.prog (pan R) ref04_Text_term.id #[x0,v11] w12 fun v13 w14 =>
 R (.returned v13) w14
def b1_2 (R:EP) (x0 v1:Value) (w8:World) (_r:Tok R:=tok R):Prop :=
 RUN Tryd.prog (pan R) (Instr.fieldAt 46 v1 1) w8 fun v15 w16 =>
 RUN Tryd.prog (pan R) (Instr.loadAt 9 v15) w16 fun v17 w18 =>
 CALL Tryd.prog (pan R) ref04_Text_non.id #[x0,v17] w18 fun v19 w20 =>
 R (.returned v19) w20
def b1 (R:EP) (x0 x1:Value) (w:World) (_r:Tok R:=tok R):Prop :=
 RUN Tryd.prog (pan R) (Instr.box 46 x1) w fun v1 w2 =>
 RUN Tryd.prog (pan R) (Instr.loadAt 46 v1) w2 fun v3 w4 =>
 CALL Tryd.prog (pan R) ref04_Text_isNon.id #[x0,v3] w4 fun v5 w6 =>
 RUN Tryd.prog (pan R) (Op.unary .not v5) w6 fun v7 w8 =>
 SPL v7
 (b1_1 R x0 v1 w8)
 (b1_2 R x0 v1 w8)
abbrev q1 (R:EP):XP:=QX (fun ρ w=>R (.returned (ρ 4)) w) (fun ρ w=>R (.returned (ρ 4)) w) []
theorem b1_eq (R:EP) (ρ:Env) (w:World):(b1 R (ρ 0) (ρ 1) w)=codeP Tryd.prog (pan R) code (q1 R) ρ w:=by kernel_rfl
theorem b1_ok (R:EP) (ρ:Env) (w:World) (h:b1 R (ρ 0) (ρ 1) w):codeP Tryd.prog (pan R) code (q1 R) ρ w:=(b1_eq R ρ w).mp h
/-- What is owed for a call. -/
def run (R:EP) (a0 a1:Value) (w:World):Prop:=b1 R a0 a1 w
theorem calls (R:EP) (a0 a1:Value) (w:World) (h:run R a0 a1 w):Calls Tryd.prog id #[a0,a1] w R :=
 calls_of_t (f:=id) (fn:=Tryd.f59) (c:=code) (by kernel_rfl) Tryd.func59 (by kernel_rfl) (by kernel_rfl) (args:=[a0,a1]) (Nat.le_of_ble_eq_true rfl) rfl (b1_ok R (envOf [a0,a1]) w h)
theorem enters:Enters Tryd.prog id:=fun args w=>Tryd.call59 args w
theorem ct {a0 a1:Value} {w:World} {S:VP} (h:∀R:EP,(∀v w,S v w→R (.returned v) w)→run R a0 a1 w):Ct Tryd.prog id #[a0,a1] w S :=
 Ct.intro enters fun R hR=>calls R a0 a1 w (h R hR)
attribute [irreducible] b1_1 b1_2 b1 run
attribute [go_sem] b1_1 b1_2 b1 run
end ref04_Text_symbol

/-! ### (*presage/presageref04.Text).header -/
namespace ref04_Text_header
noncomputable def code:Code:=bodyOf Tryd.f84
noncomputable abbrev p1:Code:=dropC 2 code
noncomputable abbrev p2:Code:=dropC 1 p1
def b3 (R:EP) (x0:Value) (w:World) (_r:Tok R:=tok R):Prop :=
 NILC x0 fun v1 =>
 RUN Tryd.prog (pan R) (Instr.fieldAt 69 v1 0) w fun v2 w3 =>
 RUNU Tryd.prog (pan R) (Instr.storeAt 3 v2 (Go.Value.int Go.IntKind.i64 1)) w3 fun w4 =>
 R (.returned (Go.Value.bool Bool.true)) w4
abbrev q1 (R:EP):XP:=QX (fun ρ w=>R (.returned (ρ 4)) w) (fun ρ w=>R (.returned (ρ 4)) w) []
theorem b3_eq (R:EP) (ρ:Env) (w:World):(b3 R (ρ 0) w)=codeP Tryd.prog (pan R) p2 (q1 R) ρ w:=by kernel_rfl
theorem b3_ok (R:EP) (ρ:Env) (w:World) (h:b3 R (ρ 0) w):codeP Tryd.prog (pan R) p2 (q1 R) ρ w:=(b3_eq R ρ w).mp h
def b2_1 (R:EP) (x0:Value) (w7:World) (_r:Tok R:=tok R):Prop :=
 NILC x0 fun v8 =>
 PUR Tryd.prog (Instr.fieldAt 69 v8 3) fun v9 =>
 LD Tryd.prog (Instr.loadAt 25 v9) (World.drew w7) fun v10 =>
 NILC x0 fun v11 =>
 PUR Tryd.prog (Instr.fieldAt 69 v11 1) fun v12 =>
 LD Tryd.prog (Instr.loadAt 3 v12) (World.drew w7) fun v13 =>
 RUN Tryd.prog (pan R) (Instr.buildSlice 25 1 #[(0,v13)]) (World.drew w7) fun v14 w15 =>
 Sem.run Tryd.prog (Instr.loadAt 25 v9) w15 = .ok v10 w15∧(RUN Tryd.prog (pan R) (Builtin.append_ #[25,25] 25 #[v10,v14]) w15 fun v16 w17 =>
 NILC x0 fun v18 =>
 PUR Tryd.prog (Instr.fieldAt 69 v18 3) fun v19 =>
 RUNU Tryd.prog (pan R) (Instr.storeAt 25 v19 v16) w17 fun w20 =>
 b3 R x0 w20)
def b2 (R:EP) (x0:Value) (w:World) (_r:Tok R:=tok R):Prop :=
 NILC x0 fun v1 =>
 RUN Tryd.prog (pan R) (Instr.fieldAt 69 v1 1) w fun v2 w3 =>
 RUN Tryd.prog (pan R) (Instr.loadAt 3 v2) w3 fun v4 w5 =>
 RUN Tryd.prog (pan R) (bins .gtr 3 (.tmp 40) (.const (Go.Value.int Go.IntKind.i64 0)) v4 (Go.Value.int Go.IntKind.i64 0)) w5 fun v6 w7 =>
 SPL v6
 (b2_1 R x0 w7)
 (b3 R x0 w7)
abbrev q2 (R:EP):XP:=QX (fun ρ w=>b3 R (ρ 0) w) (fun ρ w=>R (.returned (ρ 4)) w) []
theorem b2_eq (R:EP) (ρ:Env) (w:World):(b2 R (ρ 0) w)=codeP Tryd.prog (pan R) (preC 0 p1) (q2 R) ρ w:=by kernel_rfl
theorem b2_ok (R:EP) (ρ:Env) (w:World) (h:b2 R (ρ 0) w):codeP Tryd.prog (pan R) p1 (q1 R) ρ w:=by
 have e:appC 0 (preC 0 p1) (dropC 1 p1)=p1:=by kernel_rfl
 rw [←e]
 exact appQ (fun ρ w=>b3 R (ρ 0) w) 0 ((b2_eq R ρ w).mp h) (fun ρ w h=>b3_ok R ρ w h)
def b1_1 (R:EP) (x0:Value) (w8:World) (_r:Tok R:=tok R):Prop :=
 NILC x0 fun v9 =>
 RUN Tryd.prog (pan R) (Instr.fieldAt 69 v9 1) w8 fun v10 w11 =>
 RUNU Tryd.prog (pan R) (Instr.storeAt 3 v10 (Go.Value.int Go.IntKind.i64 0)) w11 fun w12 =>
 b2 R x0 w12
def b1_2 (R:EP) (x0:Value) (w14:World) (_r:Tok R:=tok R):Prop :=
 NILC x0 fun v15 =>
 RUN Tryd.prog (pan R) (Instr.fieldAt 69 v15 1) w14 fun v16 w17 =>
 RUNU Tryd.prog (pan R) (Instr.storeAt 3 v16 (Go.Value.int Go.IntKind.i64 1)) w17 fun w18 =>
 b2 R x0 w18
def b1_3 (R:EP) (x0:Value) (w20:World) (_r:Tok R:=tok R):Prop :=
 NILC x0 fun v21 =>
 RUN Tryd.prog (pan R) (Instr.fieldAt 69 v21 1) w20 fun v22 w23 =>
 RUNU Tryd.prog (pan R) (Instr.storeAt 3 v22 (Go.Value.int Go.IntKind.i64 2)) w23 fun w24 =>
 b2 R x0 w24
def b1_4 (R:EP) (x0:Value) (w26:World) (_r:Tok R:=tok R):Prop :=
 NILC x0 fun v27 =>
 RUN Tryd.prog (pan R) (Instr.fieldAt 69 v27 1) w26 fun v28 w29 =>
 RUNU Tryd.prog (pan R) (Instr.storeAt 3 v28 (Go.Value.int Go.IntKind.i64 3)) w29 fun w30 =>
 b2 R x0 w30
def b1_5 (R:EP) (x0:Value) (w39:World) (_r:Tok R:=tok R):Prop :=
 NILC x0 fun v40 =>
 RUN Tryd.prog (pan R) (Instr.fieldAt 69 v40 0) w39 fun v41 w42 =>
 RUNU Tryd.prog (pan R) (Instr.storeAt 3 v41 (Go.Value.int Go.IntKind.i64 3)) w42 fun w43 =>
 R (.returned (Go.Value.bool Bool.true)) w43
def b1_6 (R:EP) (x0:Value) (w32:World) (_r:Tok R:=tok R):Prop :=
 NILC x0 fun v33 =>
 RUN Tryd.prog (pan R) (Instr.fieldAt 69 v33 7) w32 fun v34 w35 =>
 RUN Tryd.prog (pan R) (Instr.loadAt 9 v34) w35 fun v36 w37 =>
 RUN Tryd.prog (pan R) (bins .neq 9 (.tmp 32) (.const (Go.Value.string {data:=#[] })) v36 (Go.Value.string {data:=#[] })) w37 fun v38 w39 =>
 SPL v38
 (R (.returned (Go.Value.bool Bool.false)) w39)
 (b1_5 R x0 w39)
def b1_7 (R:EP) (x0 v5:Value) (w20:World) (_r:Tok R:=tok R):Prop :=
 RUN Tryd.prog (pan R) (bins .eql 9 (.tmp 6) (.const (Go.Value.string {data:=#[37,110,111,110,97,115,115,111,99] })) v5 (Go.Value.string {data:=#[37,110,111,110,97,115,115,111,99] })) w20 fun v25 w26 =>
 SPL v25
 (b1_4 R x0 w26)
 (RUN Tryd.prog (pan R) (bins .eql 9 (.tmp 6) (.const (Go.Value.string {data:=#[37,115,116,97,114,116] })) v5 (Go.Value.string {data:=#[37,115,116,97,114,116] })) w26 fun v31 w32 =>
 SPL v31
 (b1_6 R x0 w32)
 (R (.returned (Go.Value.bool Bool.false)) w32))
def b1_8 (R:EP) (x0 v5:Value) (w8:World) (_r:Tok R:=tok R):Prop :=
 RUN Tryd.prog (pan R) (bins .eql 9 (.tmp 6) (.const (Go.Value.string {data:=#[37,108,101,102,116] })) v5 (Go.Value.string {data:=#[37,108,101,102,116] })) w8 fun v13 w14 =>
 SPL v13
 (b1_2 R x0 w14)
 (RUN Tryd.prog (pan R) (bins .eql 9 (.tmp 6) (.const (Go.Value.string {data:=#[37,114,105,103,104,116] })) v5 (Go.Value.string {data:=#[37,114,105,103,104,116] })) w14 fun v19 w20 =>
 SPL v19
 (b1_3 R x0 w20)
 (b1_7 R x0 v5 w20))
def b1 (R:EP) (x0 x1:Value) (w:World) (_r:Tok R:=tok R):Prop :=
 RUN Tryd.prog (pan R) (Instr.box 46 x1) w fun v1 w2 =>
 RUN Tryd.prog (pan R) (Instr.fieldAt 46 v1 1) w2 fun v3 w4 =>
 RUN Tryd.prog (pan R) (Instr.loadAt 9 v3) w4 fun v5 w6 =>
 RUN Tryd.prog (pan R) (bins .eql 9 (.tmp 6) (.const (Go.Value.string {data:=#[37,116,111,107,101,110] })) v5 (Go.Value.string {data:=#[37,116,111,107,101,110] })) w6 fun v7 w8 =>
 SPL v7
 (b1_1 R x0 w8)
 (b1_8 R x0 v5 w8)
abbrev q3 (R:EP):XP:=QX (fun ρ w=>b2 R (ρ 0) w) (fun ρ w=>R (.returned (ρ 4)) w) []
theorem b1_eq (R:EP) (ρ:Env) (w:World):(b1 R (ρ 0) (ρ 1) w)=codeP Tryd.prog (pan R) (preC 1 code) (q3 R) ρ w:=by kernel_rfl
theorem b1_ok (R:EP) (ρ:Env) (w:World) (h:b1 R (ρ 0) (ρ 1) w):codeP Tryd.prog (pan R) code (q1 R) ρ w:=by
 have e:appC 1 (preC 1 code) (dropC 2 code)=code:=by kernel_rfl
 rw [←e]
 exact appQ (fun ρ w=>b2 R (ρ 0) w) 1 ((b1_eq R ρ w).mp h) (fun ρ w h=>b2_ok R ρ w h)
/-- What is owed for a call. -/
def run (R:EP) (a0 a1:Value) (w:World):Prop:=b1 R a0 a1 w
theorem calls (R:EP) (a0 a1:Value) (w:World) (h:run R a0 a1 w):Calls Tryd.prog id #[a0,a1] w R :=
 calls_of_t (f:=id) (fn:=Tryd.f84) (c:=code) (by kernel_rfl) Tryd.func84 (by kernel_rfl) (by kernel_rfl) (args:=[a0,a1]) (Nat.le_of_ble_eq_true rfl) rfl (b1_ok R (envOf [a0,a1]) w h)
theorem enters:Enters Tryd.prog id:=fun args w=>Tryd.call84 args w
theorem ct {a0 a1:Value} {w:World} {S:VP} (h:∀R:EP,(∀v w,S v w→R (.returned v) w)→run R a0 a1 w):Ct Tryd.prog id #[a0,a1] w S :=
 Ct.intro enters fun R hR=>calls R a0 a1 w (h R hR)
attribute [irreducible] b3 b2_1 b2 b1_1 b1_2 b1_3 b1_4 b1_5 b1_6 b1_7 b1_8 b1 run
attribute [go_sem] b3 b2_1 b2 b1_1 b1_2 b1_3 b1_4 b1_5 b1_6 b1_7 b1_8 b1 run
end ref04_Text_header

/-! ### (*presage/presageref04.Text).begin -/
namespace ref04_Text_begin
noncomputable def code:Code:=bodyOf Tryd.f85
noncomputable abbrev p1:Code:=dropC 5 code
def b2 (R:EP) (x0:Value) (w:World) (_r:Tok R:=tok R):Prop :=
 NILC x0 fun v1 =>
 RUN Tryd.prog (pan R) (Instr.fieldAt 69 v1 0) w fun v2 w3 =>
 RUNU Tryd.prog (pan R) (Instr.storeAt 3 v2 (Go.Value.int Go.IntKind.i64 5)) w3 fun w4 =>
 R (.returned (Go.Value.bool Bool.true)) w4
abbrev q1 (R:EP):XP:=QX (fun ρ w=>R (.returned (ρ 4)) w) (fun ρ w=>R (.returned (ρ 4)) w) []
theorem b2_eq (R:EP) (ρ:Env) (w:World):(b2 R (ρ 0) w)=codeP Tryd.prog (pan R) p1 (q1 R) ρ w:=by kernel_rfl
theorem b2_ok (R:EP) (ρ:Env) (w:World) (h:b2 R (ρ 0) w):codeP Tryd.prog (pan R) p1 (q1 R) ρ w:=(b2_eq R ρ w).mp h
def b1_1 (R:EP) (x0 v1:Value) (w25:World) (_r:Tok R:=tok R):Prop :=
 NILC x0 fun v26 =>
 PUR Tryd.prog (Instr.fieldAt 69 v26 6) fun v27 =>
 LD Tryd.prog (Instr.loadAt 24 v27) (World.drew w25) fun v28 =>
 PUR Tryd.prog (Instr.fieldAt 46 v1 1) fun v29 =>
 LD Tryd.prog (Instr.loadAt 9 v29) (World.drew w25) fun v30 =>
 RUN Tryd.prog (pan R) (Instr.buildSlice 24 1 #[(0,v30)]) (World.drew w25) fun v31 w32 =>
 Sem.run Tryd.prog (Instr.loadAt 24 v27) w32 = .ok v28 w32∧(RUN Tryd.prog (pan R) (Builtin.append_ #[24,24] 24 #[v28,v31]) w32 fun v33 w34 =>
 NILC x0 fun v35 =>
 PUR Tryd.prog (Instr.fieldAt 69 v35 6) fun v36 =>
 RUNU Tryd.prog (pan R) (Instr.storeAt 24 v36 v33) w34 fun w37 =>
 b2 R x0 w37)
def b1_2 (R:EP) (x0 v1:Value) (w8:World) (_r:Tok R:=tok R):Prop :=
 RUN Tryd.prog (pan R) (Instr.fieldAt 46 v1 1) w8 fun v9 w10 =>
 RUN Tryd.prog (pan R) (Instr.loadAt 9 v9) w10 fun v11 w12 =>
 NILC x0 fun v13 =>
 RUN Tryd.prog (pan R) (Instr.fieldAt 69 v13 5) w12 fun v14 w15 =>
 RUNU Tryd.prog (pan R) (Instr.storeAt 9 v14 v11) w15 fun w16 =>
 NILC x0 fun v17 =>
 PUR Tryd.prog (Instr.fieldAt 69 v17 6) fun v18 =>
 LD Tryd.prog (Instr.loadAt 24 v18) (World.drew w16) fun v19 =>
 PUR Tryd.prog (Instr.fieldAt 46 v1 1) fun v20 =>
 LD Tryd.prog (Instr.loadAt 9 v20) (World.drew w16) fun v21 =>
 CALL Tryd.prog (pan R) ref04_has.id #[v19,v21] (World.drew w16) fun v22 w23 =>
 RUN Tryd.prog (pan R) (Op.unary .not v22) w23 fun v24 w25 =>
 SPL v24
 (b1_1 R x0 v1 w25)
 (b2 R x0 w25)
def b1 (R:EP) (x0 x1:Value) (w:World) (_r:Tok R:=tok R):Prop :=
 RUN Tryd.prog (pan R) (Instr.box 46 x1) w fun v1 w2 =>
 RUN Tryd.prog (pan R) (Instr.fieldAt 46 v1 0) w2 fun v3 w4 =>
 RUN Tryd.prog (pan R) (Instr.loadAt 3 v3) w4 fun v5 w6 =>
 RUN Tryd.prog (pan R) (bins .neq 3 (.tmp 7) (.const (Go.Value.int Go.IntKind.i64 1)) v5 (Go.Value.int Go.IntKind.i64 1)) w6 fun v7 w8 =>
 SPL v7
 (R (.returned (Go.Value.bool Bool.false)) w8)
 (b1_2 R x0 v1 w8)
abbrev q2 (R:EP):XP:=QX (fun ρ w=>b2 R (ρ 0) w) (fun ρ w=>R (.returned (ρ 4)) w) []
theorem b1_eq (R:EP) (ρ:Env) (w:World):(b1 R (ρ 0) (ρ 1) w)=codeP Tryd.prog (pan R) (preC 4 code) (q2 R) ρ w:=by kernel_rfl
theorem b1_ok (R:EP) (ρ:Env) (w:World) (h:b1 R (ρ 0) (ρ 1) w):codeP Tryd.prog (pan R) code (q1 R) ρ w:=by
 have e:appC 4 (preC 4 code) (dropC 5 code)=code:=by kernel_rfl
 rw [←e]
 exact appQ (fun ρ w=>b2 R (ρ 0) w) 4 ((b1_eq R ρ w).mp h) (fun ρ w h=>b2_ok R ρ w h)
/-- What is owed for a call. -/
def run (R:EP) (a0 a1:Value) (w:World):Prop:=b1 R a0 a1 w
theorem calls (R:EP) (a0 a1:Value) (w:World) (h:run R a0 a1 w):Calls Tryd.prog id #[a0,a1] w R :=
 calls_of_t (f:=id) (fn:=Tryd.f85) (c:=code) (by kernel_rfl) Tryd.func85 (by kernel_rfl) (by kernel_rfl) (args:=[a0,a1]) (Nat.le_of_ble_eq_true rfl) rfl (b1_ok R (envOf [a0,a1]) w h)
theorem enters:Enters Tryd.prog id:=fun args w=>Tryd.call85 args w
theorem ct {a0 a1:Value} {w:World} {S:VP} (h:∀R:EP,(∀v w,S v w→R (.returned v) w)→run R a0 a1 w):Ct Tryd.prog id #[a0,a1] w S :=
 Ct.intro enters fun R hR=>calls R a0 a1 w (h R hR)
attribute [irreducible] b2 b1_1 b1_2 b1 run
attribute [go_sem] b2 b1_1 b1_2 b1 run
end ref04_Text_begin

/-! ### (*presage/presageref04.Text).listed -/
namespace ref04_Text_listed
noncomputable def code:Code:=bodyOf Tryd.f86
noncomputable abbrev p1:Code:=dropC 2 code
noncomputable abbrev p2:Code:=dropC 1 (sndC p1)
noncomputable abbrev p3:Code:=dropC 1 p2

def b5 (R:EP) (x0:Value) (w:World) (_r:Tok R:=tok R):Prop :=
 NILC x0 fun v1 =>
 RUN Tryd.prog (pan R) (Instr.fieldAt 69 v1 0) w fun v2 w3 =>
 RUNU Tryd.prog (pan R) (Instr.storeAt 3 v2 (Go.Value.int Go.IntKind.i64 2)) w3 fun w4 =>
 R (.returned (Go.Value.bool Bool.true)) w4
abbrev q1 (R:EP):XP:=QX (fun ρ w=>R (.returned (ρ 4)) w) (fun ρ w=>R (.returned (ρ 4)) w) []
theorem b5_eq (R:EP) (ρ:Env) (w:World):(b5 R (ρ 0) w)=codeP Tryd.prog (pan R) p3 (q1 R) ρ w:=by kernel_rfl
theorem b5_ok (R:EP) (ρ:Env) (w:World) (h:b5 R (ρ 0) w):codeP Tryd.prog (pan R) p3 (q1 R) ρ w:=(b5_eq R ρ w).mp h
def b4_1 (R:EP) (x0 x5:Value) (w7:World) (_r:Tok R:=tok R):Prop :=
 NILC x0 fun v8 =>
 PUR Tryd.prog (Instr.fieldAt 69 v8 2) fun v9 =>
 LD Tryd.prog (Instr.loadAt 23 v9) (World.drew w7) fun v10 =>
 NILC x0 fun v11 =>
 PUR Tryd.prog (Instr.fieldAt 69 v11 3) fun v12 =>
 LD Tryd.prog (Instr.loadAt 25 v12) (World.drew w7) fun v13 =>
 LD Tryd.prog (Builtin.len_ #[25] 3 #[v13]) (World.drew w7) fun v14 =>
 PUR Tryd.prog (Instr.indexAt 23 v10 x5) fun v15 =>
 PUR Tryd.prog (Instr.fieldAt 39 v15 1) fun v16 =>
 RUNU Tryd.prog (pan R) (Instr.storeAt 3 v16 v14) (World.drew w7) fun w17 =>
 b5 R x0 w17

def b4 (R:EP) (x0 x5:Value) (w:World) (_r:Tok R:=tok R):Prop :=
 NILC x0 fun v1 =>
 RUN Tryd.prog (pan R) (Instr.fieldAt 69 v1 1) w fun v2 w3 =>
 RUN Tryd.prog (pan R) (Instr.loadAt 3 v2) w3 fun v4 w5 =>
 RUN Tryd.prog (pan R) (bins .gtr 3 (.tmp 55) (.const (Go.Value.int Go.IntKind.i64 0)) v4 (Go.Value.int Go.IntKind.i64 0)) w5 fun v6 w7 =>
 SPL v6
 (b4_1 R x0 x5 w7)
 (b5 R x0 w7)
abbrev q2 (R:EP):XP:=QX (fun ρ w=>b5 R (ρ 0) w) (fun ρ w=>R (.returned (ρ 4)) w) []
theorem b4_eq (R:EP) (ρ:Env) (w:World):(b4 R (ρ 0) (ρ 5) w)=codeP Tryd.prog (pan R) (preC 0 p2) (q2 R) ρ w:=by kernel_rfl
theorem b4_ok (R:EP) (ρ:Env) (w:World) (h:b4 R (ρ 0) (ρ 5) w):codeP Tryd.prog (pan R) p2 (q1 R) ρ w:=by
 have e:appC 0 (preC 0 p2) (dropC 1 p2)=p2:=by kernel_rfl
 rw [←e]
 exact appQ (fun ρ w=>b5 R (ρ 0) w) 0 ((b4_eq R ρ w).mp h) (fun ρ w h=>b5_ok R ρ w h)
def b3_1 (R:EP) (x0 x1:Value) (w2:World) (_r:Tok R:=tok R):Prop :=
 NILC x0 fun v3 =>
 RUN Tryd.prog (pan R) (Instr.fieldAt 69 v3 2) w2 fun v4 w5 =>
 RUN Tryd.prog (pan R) (Instr.loadAt 23 v4) w5 fun v6 w7 =>
 RUN Tryd.prog (pan R) (Instr.build 39 #[(0,x1)]) w7 fun v8 w9 =>
 RUN Tryd.prog (pan R) (Instr.buildSlice 23 1 #[(0,v8)]) w9 fun v10 w11 =>
 RUN Tryd.prog (pan R) (Builtin.append_ #[23,23] 23 #[v6,v10]) w11 fun v12 w13 =>
 NILC x0 fun v14 =>
 RUN Tryd.prog (pan R) (Instr.fieldAt 69 v14 2) w13 fun v15 w16 =>
 RUNU Tryd.prog (pan R) (Instr.storeAt 23 v15 v12) w16 fun w17 =>
 NILC x0 fun v18 =>
 RUN Tryd.prog (pan R) (Instr.fieldAt 69 v18 2) w17 fun v19 w20 =>
 RUN Tryd.prog (pan R) (Instr.loadAt 23 v19) w20 fun v21 w22 =>
 RUN Tryd.prog (pan R) (Builtin.len_ #[23] 3 #[v21]) w22 fun v23 w24 =>
 RUN Tryd.prog (pan R) (bins .sub 3 (.tmp 50) (.const (Go.Value.int Go.IntKind.i64 1)) v23 (Go.Value.int Go.IntKind.i64 1)) w24 fun v25 w26 =>
 b4 R x0 v25 w26

def b3 (R:EP) (x0 x1 x5:Value) (w:World) (_r:Tok R:=tok R):Prop :=
 RUN Tryd.prog (pan R) (bins .lss 3 (.tmp 33) (.const (Go.Value.int Go.IntKind.i64 0)) x5 (Go.Value.int Go.IntKind.i64 0)) w fun v1 w2 =>
 SPL v1
 (b3_1 R x0 x1 w2)
 (b4 R x0 x5 w2)
abbrev q3 (R:EP):XP:=QX (fun ρ w=>b4 R (ρ 0) (ρ 5) w) (fun ρ w=>R (.returned (ρ 4)) w) []
theorem b3_eq (R:EP) (ρ:Env) (w:World):(b3 R (ρ 0) (ρ 1) (ρ 5) w)=codeP Tryd.prog (pan R) (preC 0 (sndC p1)) (q3 R) ρ w:=by kernel_rfl
theorem b3_ok (R:EP) (ρ:Env) (w:World) (h:b3 R (ρ 0) (ρ 1) (ρ 5) w):codeP Tryd.prog (pan R) (sndC p1) (q1 R) ρ w:=by
 have e:appC 0 (preC 0 (sndC p1)) (dropC 1 (sndC p1))=(sndC p1):=by kernel_rfl
 rw [←e]
 exact appQ (fun ρ w=>b4 R (ρ 0) (ρ 5) w) 0 ((b3_eq R ρ w).mp h) (fun ρ w h=>b4_ok R ρ w h)
noncomputable abbrev p4:Code:=dropC 1 (fstC p1)

def b7 (R:EP) (x0 x1 x5 x32:Value) (w:World) (_r:Tok R:=tok R):Prop :=
 SPL x32
 (R (.returned (Go.Value.bool Bool.false)) w)
 (b3 R x0 x1 x5 w)
abbrev q4 (R:EP):XP:=QX (fun ρ w=>b3 R (ρ 0) (ρ 1) (ρ 5) w) (fun ρ w=>R (.returned (ρ 4)) w) []
theorem b7_eq (R:EP) (ρ:Env) (w:World):(b7 R (ρ 0) (ρ 1) (ρ 5) (ρ 32) w)=codeP Tryd.prog (pan R) p4 (q4 R) ρ w:=by kernel_rfl
theorem b7_ok (R:EP) (ρ:Env) (w:World) (h:b7 R (ρ 0) (ρ 1) (ρ 5) (ρ 32) w):codeP Tryd.prog (pan R) p4 (q4 R) ρ w:=(b7_eq R ρ w).mp h
def b6_1 (R:EP) (x0 x1 x5:Value) (w11:World) (_r:Tok R:=tok R):Prop :=
 NILC x0 fun v12 =>
 RUN Tryd.prog (pan R) (Instr.fieldAt 69 v12 2) w11 fun v13 w14 =>
 RUN Tryd.prog (pan R) (Instr.loadAt 23 v13) w14 fun v15 w16 =>
 RUN Tryd.prog (pan R) (Instr.indexAt 23 v15 x5) w16 fun v17 w18 =>
 RUN Tryd.prog (pan R) (Instr.fieldAt 39 v17 1) w18 fun v19 w20 =>
 RUN Tryd.prog (pan R) (Instr.loadAt 3 v19) w20 fun v21 w22 =>
 RUN Tryd.prog (pan R) (bins .gtr 3 (.tmp 29) (.const (Go.Value.int Go.IntKind.i64 0)) v21 (Go.Value.int Go.IntKind.i64 0)) w22 fun v23 w24 =>
 b7 R x0 x1 x5 v23 w24
def b6_2 (R:EP) (x0 x1 x5:Value) (w7:World) (_r:Tok R:=tok R):Prop :=
 RUN Tryd.prog (pan R) (bins .geq 3 (.tmp 15) (.const (Go.Value.int Go.IntKind.i64 0)) x5 (Go.Value.int Go.IntKind.i64 0)) w7 fun v8 w9 =>
 SPL v8
 (b7 R x0 x1 x5 (Go.Value.bool Bool.true) w9)
 (RUN Tryd.prog (pan R) (bins .geq 3 (.tmp 19) (.const (Go.Value.int Go.IntKind.i64 0)) x5 (Go.Value.int Go.IntKind.i64 0)) w9 fun v10 w11 =>
 SPL v10
 (b6_1 R x0 x1 x5 w11)
 (b7 R x0 x1 x5 (Go.Value.bool Bool.false) w11))
def b6_3 (R:EP) (x0 x1 x5:Value) (w26:World) (_r:Tok R:=tok R):Prop :=
 NILC x0 fun v27 =>
 RUN Tryd.prog (pan R) (Instr.fieldAt 69 v27 2) w26 fun v28 w29 =>
 RUN Tryd.prog (pan R) (Instr.loadAt 23 v28) w29 fun v30 w31 =>
 RUN Tryd.prog (pan R) (Instr.indexAt 23 v30 x5) w31 fun v32 w33 =>
 RUN Tryd.prog (pan R) (Instr.fieldAt 39 v32 1) w33 fun v34 w35 =>
 RUN Tryd.prog (pan R) (Instr.loadAt 3 v34) w35 fun v36 w37 =>
 RUN Tryd.prog (pan R) (bins .gtr 3 (.tmp 29) (.const (Go.Value.int Go.IntKind.i64 0)) v36 (Go.Value.int Go.IntKind.i64 0)) w37 fun v38 w39 =>
 b7 R x0 x1 x5 v38 w39

def b6 (R:EP) (x0 x1 x5:Value) (w:World) (_r:Tok R:=tok R):Prop :=
 NILC x0 fun v1 =>
 RUN Tryd.prog (pan R) (Instr.fieldAt 69 v1 1) w fun v2 w3 =>
 RUN Tryd.prog (pan R) (Instr.loadAt 3 v2) w3 fun v4 w5 =>
 RUN Tryd.prog (pan R) (bins .eql 3 (.tmp 12) (.const (Go.Value.int Go.IntKind.i64 0)) v4 (Go.Value.int Go.IntKind.i64 0)) w5 fun v6 w7 =>
 SPL v6
 (b6_2 R x0 x1 x5 w7)
 (RUN Tryd.prog (pan R) (bins .geq 3 (.tmp 19) (.const (Go.Value.int Go.IntKind.i64 0)) x5 (Go.Value.int Go.IntKind.i64 0)) w7 fun v25 w26 =>
 SPL v25
 (b6_3 R x0 x1 x5 w26)
 (b7 R x0 x1 x5 (Go.Value.bool Bool.false) w26))
abbrev q5 (R:EP):XP:=QX (fun ρ w=>b7 R (ρ 0) (ρ 1) (ρ 5) (ρ 32) w) (fun ρ w=>R (.returned (ρ 4)) w) []
theorem b6_eq (R:EP) (ρ:Env) (w:World):(b6 R (ρ 0) (ρ 1) (ρ 5) w)=codeP Tryd.prog (pan R) (preC 0 (fstC p1)) (q5 R) ρ w:=by kernel_rfl
theorem b6_ok (R:EP) (ρ:Env) (w:World) (h:b6 R (ρ 0) (ρ 1) (ρ 5) w):codeP Tryd.prog (pan R) (fstC p1) (q4 R) ρ w:=by
 have e:appC 0 (preC 0 (fstC p1)) (dropC 1 (fstC p1))=(fstC p1):=by kernel_rfl
 rw [←e]
 exact appQ (fun ρ w=>b7 R (ρ 0) (ρ 1) (ρ 5) (ρ 32) w) 0 ((b6_eq R ρ w).mp h) (fun ρ w h=>b7_ok R ρ w h)
theorem k2_ok (R:EP) (ρ:Env) (w:World) (h:b6 R (ρ 0) (ρ 1) (ρ 5) w):codeP Tryd.prog (pan R) p1 (q1 R) ρ w:=by
 have e:Code.seq (fstC p1) (sndC p1)=p1:=by kernel_rfl
 rw [←e]
 exact seqQ (fun ρ w=>b3 R (ρ 0) (ρ 1) (ρ 5) w) (b6_ok R ρ w h) (fun ρ w h=>b3_ok R ρ w h)

def b1 (R:EP) (x0 x1:Value) (w:World) (_r:Tok R:=tok R):Prop :=
 CALL Tryd.prog (pan R) ref04_Text_term.id #[x0,x1] w fun v1 w2 =>
 b6 R x0 x1 v1 w2
abbrev q6 (R:EP):XP:=QX (fun ρ w=>b6 R (ρ 0) (ρ 1) (ρ 5) w) (fun ρ w=>R (.returned (ρ 4)) w) []
theorem b1_eq (R:EP) (ρ:Env) (w:World):(b1 R (ρ 0) (ρ 1) w)=codeP Tryd.prog (pan R) (preC 1 code) (q6 R) ρ w:=by kernel_rfl
theorem b1_ok (R:EP) (ρ:Env) (w:World) (h:b1 R (ρ 0) (ρ 1) w):codeP Tryd.prog (pan R) code (q1 R) ρ w:=by
 have e:appC 1 (preC 1 code) (dropC 2 code)=code:=by kernel_rfl
 rw [←e]
 exact appQ (fun ρ w=>b6 R (ρ 0) (ρ 1) (ρ 5) w) 1 ((b1_eq R ρ w).mp h) (fun ρ w h=>k2_ok R ρ w h)
/-- What is owed for a call. -/
def run (R:EP) (a0 a1:Value) (w:World):Prop:=b1 R a0 a1 w
theorem calls (R:EP) (a0 a1:Value) (w:World) (h:run R a0 a1 w):Calls Tryd.prog id #[a0,a1] w R :=
 calls_of_t (f:=id) (fn:=Tryd.f86) (c:=code) (by kernel_rfl) Tryd.func86 (by kernel_rfl) (by kernel_rfl) (args:=[a0,a1]) (Nat.le_of_ble_eq_true rfl) rfl (b1_ok R (envOf [a0,a1]) w h)
theorem enters:Enters Tryd.prog id:=fun args w=>Tryd.call86 args w
theorem ct {a0 a1:Value} {w:World} {S:VP} (h:∀R:EP,(∀v w,S v w→R (.returned v) w)→run R a0 a1 w):Ct Tryd.prog id #[a0,a1] w S :=
 Ct.intro enters fun R hR=>calls R a0 a1 w (h R hR)
attribute [irreducible] b5 b4_1 b4 b3_1 b3 b7 b6_1 b6_2 b6_3 b6 b1 run
attribute [go_sem] b5 b4_1 b4 b3_1 b3 b7 b6_1 b6_2 b6_3 b6 b1 run
end ref04_Text_listed

/-! ### (*presage/presageref04.Text).within -/
namespace ref04_Text_within
noncomputable def code:Code:=bodyOf Tryd.f88
noncomputable abbrev p1:Code:=dropC 2 code

def b3 (R:EP) (w:World) (_r:Tok R:=tok R):Prop :=
 R (.returned (Go.Value.bool Bool.true)) w
abbrev q1 (R:EP):XP:=QX (fun ρ w=>R (.returned (ρ 4)) w) (fun ρ w=>R (.returned (ρ 4)) w) []
theorem b3_eq (R:EP) (ρ:Env) (w:World):(b3 R w)=codeP Tryd.prog (pan R) (sndC p1) (q1 R) ρ w:=by kernel_rfl
theorem b3_ok (R:EP) (ρ:Env) (w:World) (h:b3 R w):codeP Tryd.prog (pan R) (sndC p1) (q1 R) ρ w:=(b3_eq R ρ w).mp h
noncomputable abbrev p2:Code:=blkC (fstC p1)
noncomputable abbrev p3:Code:=dropC 1 p2

def b7 (R:EP) (x0:Value) (w:World) (_r:Tok R:=tok R):Prop :=
 CALL Tryd.prog (pan R) ref04_Text_another.id #[x0] w fun v1 w2 =>
 b3 R w2
abbrev q2 (R:EP):XP:=QX (fun ρ w=>b3 R  w) (fun ρ w=>R (.returned (ρ 4)) w) [(0,(fun ρ w=>b3 R  w))]
theorem b7_eq (R:EP) (ρ:Env) (w:World):(b7 R (ρ 0) w)=codeP Tryd.prog (pan R) (thnC p3) (q2 R) ρ w:=by kernel_rfl
theorem b7_ok (R:EP) (ρ:Env) (w:World) (h:b7 R (ρ 0) w):codeP Tryd.prog (pan R) (thnC p3) (q2 R) ρ w:=(b7_eq R ρ w).mp h
noncomputable abbrev p4:Code:=dropC 1 (elsC p3)

def b10 (R:EP) (x0:Value) (w:World) (_r:Tok R:=tok R):Prop :=
 NILC x0 fun v1 =>
 RUN Tryd.prog (pan R) (Instr.fieldAt 69 v1 0) w fun v2 w3 =>
 RUNU Tryd.prog (pan R) (Instr.storeAt 3 v2 (Go.Value.int Go.IntKind.i64 9)) w3 fun w4 =>
 b3 R w4
theorem b10_eq (R:EP) (ρ:Env) (w:World):(b10 R (ρ 0) w)=codeP Tryd.prog (pan R) (thnC p4) (q2 R) ρ w:=by kernel_rfl
theorem b10_ok (R:EP) (ρ:Env) (w:World) (h:b10 R (ρ 0) w):codeP Tryd.prog (pan R) (thnC p4) (q2 R) ρ w:=(b10_eq R ρ w).mp h
noncomputable abbrev p5:Code:=dropC 1 (elsC p4)

def b13 (R:EP) (x3 x5:Value) (w:World) (_r:Tok R:=tok R):Prop :=
 NILC x5 fun v1 =>
 PUR Tryd.prog (Instr.fieldAt 124 v1 1) fun v2 =>
 LD Tryd.prog (Instr.loadAt 41 v2) (World.drew w) fun v3 =>
 LD Tryd.prog (Instr.loadAt 46 x3) (World.drew w) fun v4 =>
 RUN Tryd.prog (pan R) (Instr.buildSlice 41 1 #[(0,v4)]) (World.drew w) fun v5 w6 =>
 Sem.run Tryd.prog (Instr.loadAt 41 v2) w6 = .ok v3 w6∧(RUN Tryd.prog (pan R) (Builtin.append_ #[41,41] 41 #[v3,v5]) w6 fun v7 w8 =>
 NILC x5 fun v9 =>
 PUR Tryd.prog (Instr.fieldAt 124 v9 1) fun v10 =>
 RUNU Tryd.prog (pan R) (Instr.storeAt 41 v10 v7) w8 fun w11 =>
 b3 R w11)
theorem b13_eq (R:EP) (ρ:Env) (w:World):(b13 R (ρ 3) (ρ 5) w)=codeP Tryd.prog (pan R) (thnC p5) (q2 R) ρ w:=by kernel_rfl
theorem b13_ok (R:EP) (ρ:Env) (w:World) (h:b13 R (ρ 3) (ρ 5) w):codeP Tryd.prog (pan R) (thnC p5) (q2 R) ρ w:=(b13_eq R ρ w).mp h
noncomputable abbrev p6:Code:=dropC 1 (elsC p5)

def b16 (R:EP) (x0 x5:Value) (w:World) (_r:Tok R:=tok R):Prop :=
 NILC x5 fun v1 =>
 RUN Tryd.prog (pan R) (Instr.fieldAt 124 v1 2) w fun v2 w3 =>
 RUNU Tryd.prog (pan R) (Instr.storeAt 3 v2 (Go.Value.int Go.IntKind.i64 1)) w3 fun w4 =>
 NILC x0 fun v5 =>
 RUN Tryd.prog (pan R) (Instr.fieldAt 69 v5 0) w4 fun v6 w7 =>
 RUNU Tryd.prog (pan R) (Instr.storeAt 3 v6 (Go.Value.int Go.IntKind.i64 7)) w7 fun w8 =>
 b3 R w8
theorem b16_eq (R:EP) (ρ:Env) (w:World):(b16 R (ρ 0) (ρ 5) w)=codeP Tryd.prog (pan R) (thnC p6) (q2 R) ρ w:=by kernel_rfl
theorem b16_ok (R:EP) (ρ:Env) (w:World) (h:b16 R (ρ 0) (ρ 5) w):codeP Tryd.prog (pan R) (thnC p6) (q2 R) ρ w:=(b16_eq R ρ w).mp h
noncomputable abbrev p7:Code:=dropC 1 (elsC p6)
def b18_1 (R:EP) (x0 x5:Value) (w:World) (_r:Tok R:=tok R):Prop :=
 NILC x5 fun v1 =>
 RUN Tryd.prog (pan R) (Instr.fieldAt 124 v1 2) w fun v2 w3 =>
 RUNU Tryd.prog (pan R) (Instr.storeAt 3 v2 (Go.Value.int Go.IntKind.i64 2)) w3 fun w4 =>
 NILC x0 fun v5 =>
 RUN Tryd.prog (pan R) (Instr.fieldAt 69 v5 0) w4 fun v6 w7 =>
 RUNU Tryd.prog (pan R) (Instr.storeAt 3 v6 (Go.Value.int Go.IntKind.i64 8)) w7 fun w8 =>
 b3 R w8

def b18 (R:EP) (x0 x5 x88:Value) (w:World) (_r:Tok R:=tok R):Prop :=
 SPL x88
 (b18_1 R x0 x5 w)
 (R (.returned (Go.Value.bool Bool.false)) w)
theorem b18_eq (R:EP) (ρ:Env) (w:World):(b18 R (ρ 0) (ρ 5) (ρ 88) w)=codeP Tryd.prog (pan R) p7 (q2 R) ρ w:=by kernel_rfl
theorem b18_ok (R:EP) (ρ:Env) (w:World) (h:b18 R (ρ 0) (ρ 5) (ρ 88) w):codeP Tryd.prog (pan R) p7 (q2 R) ρ w:=(b18_eq R ρ w).mp h
def b17_1 (R:EP) (x0 x3 x5:Value) (w13:World) (_r:Tok R:=tok R):Prop :=
 RUN Tryd.prog (pan R) (Instr.fieldAt 46 x3 0) w13 fun v14 w15 =>
 RUN Tryd.prog (pan R) (Instr.loadAt 3 v14) w15 fun v16 w17 =>
 RUN Tryd.prog (pan R) (bins .eql 3 (.tmp 101) (.const (Go.Value.int Go.IntKind.i64 3)) v16 (Go.Value.int Go.IntKind.i64 3)) w17 fun v18 w19 =>
 b18 R x0 x5 v18 w19
def b17_2 (R:EP) (x0 x3 x5:Value) (w7:World) (_r:Tok R:=tok R):Prop :=
 RUN Tryd.prog (pan R) (Instr.fieldAt 46 x3 1) w7 fun v8 w9 =>
 RUN Tryd.prog (pan R) (Instr.loadAt 9 v8) w9 fun v10 w11 =>
 RUN Tryd.prog (pan R) (bins .eql 9 (.tmp 96) (.const (Go.Value.string {data:=#[37,110,111,110,101] })) v10 (Go.Value.string {data:=#[37,110,111,110,101] })) w11 fun v12 w13 =>
 SPL v12
 (b17_1 R x0 x3 x5 w13)
 (b18 R x0 x5 (Go.Value.bool Bool.false) w13)

def b17 (R:EP) (x0 x3 x5:Value) (w:World) (_r:Tok R:=tok R):Prop :=
 NILC x0 fun v1 =>
 RUN Tryd.prog (pan R) (Instr.fieldAt 69 v1 0) w fun v2 w3 =>
 RUN Tryd.prog (pan R) (Instr.loadAt 3 v2) w3 fun v4 w5 =>
 RUN Tryd.prog (pan R) (bins .eql 3 (.tmp 92) (.const (Go.Value.int Go.IntKind.i64 6)) v4 (Go.Value.int Go.IntKind.i64 6)) w5 fun v6 w7 =>
 SPL v6
 (b17_2 R x0 x3 x5 w7)
 (b18 R x0 x5 (Go.Value.bool Bool.false) w7)
abbrev q3 (R:EP):XP:=QX (fun ρ w=>b18 R (ρ 0) (ρ 5) (ρ 88) w) (fun ρ w=>R (.returned (ρ 4)) w) [(0,(fun ρ w=>b3 R  w))]
theorem b17_eq (R:EP) (ρ:Env) (w:World):(b17 R (ρ 0) (ρ 3) (ρ 5) w)=codeP Tryd.prog (pan R) (preC 0 (elsC p6)) (q3 R) ρ w:=by kernel_rfl
theorem b17_ok (R:EP) (ρ:Env) (w:World) (h:b17 R (ρ 0) (ρ 3) (ρ 5) w):codeP Tryd.prog (pan R) (elsC p6) (q2 R) ρ w:=by
 have e:appC 0 (preC 0 (elsC p6)) (dropC 1 (elsC p6))=(elsC p6):=by kernel_rfl
 rw [←e]
 exact appQ (fun ρ w=>b18 R (ρ 0) (ρ 5) (ρ 88) w) 0 ((b17_eq R ρ w).mp h) (fun ρ w h=>b18_ok R ρ w h)

def b15 (R:EP) (x0 x3 x5 x66:Value) (w:World) (_r:Tok R:=tok R):Prop :=
 SPL x66 (b16 R x0 x5 w) (b17 R x0 x3 x5 w)
theorem b15_ok (R:EP) (ρ:Env) (w:World) (h:b15 R (ρ 0) (ρ 3) (ρ 5) (ρ 66) w):codeP Tryd.prog (pan R) p6 (q2 R) ρ w:=by
 have e:Code.cond (.tmp 66) (thnC p6) (elsC p6)=p6:=by kernel_rfl
 rw [←e]
 exact condQ' h (fun h=>b16_ok R ρ w h) (fun h=>b17_ok R ρ w h)
def b14_1 (R:EP) (x0 x3 x5:Value) (w13:World) (_r:Tok R:=tok R):Prop :=
 RUN Tryd.prog (pan R) (Instr.fieldAt 46 x3 0) w13 fun v14 w15 =>
 RUN Tryd.prog (pan R) (Instr.loadAt 3 v14) w15 fun v16 w17 =>
 RUN Tryd.prog (pan R) (bins .eql 3 (.tmp 79) (.const (Go.Value.int Go.IntKind.i64 3)) v16 (Go.Value.int Go.IntKind.i64 3)) w17 fun v18 w19 =>
 b15 R x0 x3 x5 v18 w19
def b14_2 (R:EP) (x0 x3 x5:Value) (w7:World) (_r:Tok R:=tok R):Prop :=
 RUN Tryd.prog (pan R) (Instr.fieldAt 46 x3 1) w7 fun v8 w9 =>
 RUN Tryd.prog (pan R) (Instr.loadAt 9 v8) w9 fun v10 w11 =>
 RUN Tryd.prog (pan R) (bins .eql 9 (.tmp 74) (.const (Go.Value.string {data:=#[37,112,114,101,99] })) v10 (Go.Value.string {data:=#[37,112,114,101,99] })) w11 fun v12 w13 =>
 SPL v12
 (b14_1 R x0 x3 x5 w13)
 (b15 R x0 x3 x5 (Go.Value.bool Bool.false) w13)

def b14 (R:EP) (x0 x3 x5:Value) (w:World) (_r:Tok R:=tok R):Prop :=
 NILC x0 fun v1 =>
 RUN Tryd.prog (pan R) (Instr.fieldAt 69 v1 0) w fun v2 w3 =>
 RUN Tryd.prog (pan R) (Instr.loadAt 3 v2) w3 fun v4 w5 =>
 RUN Tryd.prog (pan R) (bins .eql 3 (.tmp 70) (.const (Go.Value.int Go.IntKind.i64 6)) v4 (Go.Value.int Go.IntKind.i64 6)) w5 fun v6 w7 =>
 SPL v6
 (b14_2 R x0 x3 x5 w7)
 (b15 R x0 x3 x5 (Go.Value.bool Bool.false) w7)
abbrev q4 (R:EP):XP:=QX (fun ρ w=>b15 R (ρ 0) (ρ 3) (ρ 5) (ρ 66) w) (fun ρ w=>R (.returned (ρ 4)) w) [(0,(fun ρ w=>b3 R  w))]
theorem b14_eq (R:EP) (ρ:Env) (w:World):(b14 R (ρ 0) (ρ 3) (ρ 5) w)=codeP Tryd.prog (pan R) (preC 0 (elsC p5)) (q4 R) ρ w:=by kernel_rfl
theorem b14_ok (R:EP) (ρ:Env) (w:World) (h:b14 R (ρ 0) (ρ 3) (ρ 5) w):codeP Tryd.prog (pan R) (elsC p5) (q2 R) ρ w:=by
 have e:appC 0 (preC 0 (elsC p5)) (dropC 1 (elsC p5))=(elsC p5):=by kernel_rfl
 rw [←e]
 exact appQ (fun ρ w=>b15 R (ρ 0) (ρ 3) (ρ 5) (ρ 66) w) 0 ((b14_eq R ρ w).mp h) (fun ρ w h=>b15_ok R ρ w h)

def b12 (R:EP) (x0 x3 x5 x40:Value) (w:World) (_r:Tok R:=tok R):Prop :=
 SPL x40 (b13 R x3 x5 w) (b14 R x0 x3 x5 w)
theorem b12_ok (R:EP) (ρ:Env) (w:World) (h:b12 R (ρ 0) (ρ 3) (ρ 5) (ρ 40) w):codeP Tryd.prog (pan R) p5 (q2 R) ρ w:=by
 have e:Code.cond (.tmp 40) (thnC p5) (elsC p5)=p5:=by kernel_rfl
 rw [←e]
 exact condQ' h (fun h=>b13_ok R ρ w h) (fun h=>b14_ok R ρ w h)
def b11_1 (R:EP) (x0 x3 x5:Value) (w13:World) (_r:Tok R:=tok R):Prop :=
 RUN Tryd.prog (pan R) (Instr.fieldAt 46 x3 0) w13 fun v14 w15 =>
 RUN Tryd.prog (pan R) (Instr.loadAt 3 v14) w15 fun v16 w17 =>
 RUN Tryd.prog (pan R) (bins .eql 3 (.tmp 52) (.const (Go.Value.int Go.IntKind.i64 2)) v16 (Go.Value.int Go.IntKind.i64 2)) w17 fun v18 w19 =>
 b12 R x0 x3 x5 v18 w19
def b11_2 (R:EP) (x0 x3 x5:Value) (w7:World) (_r:Tok R:=tok R):Prop :=
 RUN Tryd.prog (pan R) (Instr.fieldAt 46 x3 0) w7 fun v8 w9 =>
 RUN Tryd.prog (pan R) (Instr.loadAt 3 v8) w9 fun v10 w11 =>
 RUN Tryd.prog (pan R) (bins .eql 3 (.tmp 48) (.const (Go.Value.int Go.IntKind.i64 1)) v10 (Go.Value.int Go.IntKind.i64 1)) w11 fun v12 w13 =>
 SPL v12
 (b12 R x0 x3 x5 (Go.Value.bool Bool.true) w13)
 (b11_1 R x0 x3 x5 w13)

def b11 (R:EP) (x0 x3 x5:Value) (w:World) (_r:Tok R:=tok R):Prop :=
 NILC x0 fun v1 =>
 RUN Tryd.prog (pan R) (Instr.fieldAt 69 v1 0) w fun v2 w3 =>
 RUN Tryd.prog (pan R) (Instr.loadAt 3 v2) w3 fun v4 w5 =>
 RUN Tryd.prog (pan R) (bins .eql 3 (.tmp 44) (.const (Go.Value.int Go.IntKind.i64 6)) v4 (Go.Value.int Go.IntKind.i64 6)) w5 fun v6 w7 =>
 SPL v6
 (b11_2 R x0 x3 x5 w7)
 (b12 R x0 x3 x5 (Go.Value.bool Bool.false) w7)
abbrev q5 (R:EP):XP:=QX (fun ρ w=>b12 R (ρ 0) (ρ 3) (ρ 5) (ρ 40) w) (fun ρ w=>R (.returned (ρ 4)) w) [(0,(fun ρ w=>b3 R  w))]
theorem b11_eq (R:EP) (ρ:Env) (w:World):(b11 R (ρ 0) (ρ 3) (ρ 5) w)=codeP Tryd.prog (pan R) (preC 0 (elsC p4)) (q5 R) ρ w:=by kernel_rfl
theorem b11_ok (R:EP) (ρ:Env) (w:World) (h:b11 R (ρ 0) (ρ 3) (ρ 5) w):codeP Tryd.prog (pan R) (elsC p4) (q2 R) ρ w:=by
 have e:appC 0 (preC 0 (elsC p4)) (dropC 1 (elsC p4))=(elsC p4):=by kernel_rfl
 rw [←e]
 exact appQ (fun ρ w=>b12 R (ρ 0) (ρ 3) (ρ 5) (ρ 40) w) 0 ((b11_eq R ρ w).mp h) (fun ρ w h=>b12_ok R ρ w h)

def b9 (R:EP) (x0 x3 x5 x28:Value) (w:World) (_r:Tok R:=tok R):Prop :=
 SPL x28 (b10 R x0 w) (b11 R x0 x3 x5 w)
theorem b9_ok (R:EP) (ρ:Env) (w:World) (h:b9 R (ρ 0) (ρ 3) (ρ 5) (ρ 28) w):codeP Tryd.prog (pan R) p4 (q2 R) ρ w:=by
 have e:Code.cond (.tmp 28) (thnC p4) (elsC p4)=p4:=by kernel_rfl
 rw [←e]
 exact condQ' h (fun h=>b10_ok R ρ w h) (fun h=>b11_ok R ρ w h)
def b8_1 (R:EP) (x0 x3 x5:Value) (w6:World) (_r:Tok R:=tok R):Prop :=
 RUN Tryd.prog (pan R) (Instr.fieldAt 46 x3 1) w6 fun v7 w8 =>
 RUN Tryd.prog (pan R) (Instr.loadAt 9 v7) w8 fun v9 w10 =>
 RUN Tryd.prog (pan R) (bins .eql 9 (.tmp 34) (.const (Go.Value.string {data:=#[59] })) v9 (Go.Value.string {data:=#[59] })) w10 fun v11 w12 =>
 b9 R x0 x3 x5 v11 w12

def b8 (R:EP) (x0 x3 x5:Value) (w:World) (_r:Tok R:=tok R):Prop :=
 RUN Tryd.prog (pan R) (Instr.fieldAt 46 x3 0) w fun v1 w2 =>
 RUN Tryd.prog (pan R) (Instr.loadAt 3 v1) w2 fun v3 w4 =>
 RUN Tryd.prog (pan R) (bins .eql 3 (.tmp 30) (.const (Go.Value.int Go.IntKind.i64 4)) v3 (Go.Value.int Go.IntKind.i64 4)) w4 fun v5 w6 =>
 SPL v5
 (b8_1 R x0 x3 x5 w6)
 (b9 R x0 x3 x5 (Go.Value.bool Bool.false) w6)
abbrev q6 (R:EP):XP:=QX (fun ρ w=>b9 R (ρ 0) (ρ 3) (ρ 5) (ρ 28) w) (fun ρ w=>R (.returned (ρ 4)) w) [(0,(fun ρ w=>b3 R  w))]
theorem b8_eq (R:EP) (ρ:Env) (w:World):(b8 R (ρ 0) (ρ 3) (ρ 5) w)=codeP Tryd.prog (pan R) (preC 0 (elsC p3)) (q6 R) ρ w:=by kernel_rfl
theorem b8_ok (R:EP) (ρ:Env) (w:World) (h:b8 R (ρ 0) (ρ 3) (ρ 5) w):codeP Tryd.prog (pan R) (elsC p3) (q2 R) ρ w:=by
 have e:appC 0 (preC 0 (elsC p3)) (dropC 1 (elsC p3))=(elsC p3):=by kernel_rfl
 rw [←e]
 exact appQ (fun ρ w=>b9 R (ρ 0) (ρ 3) (ρ 5) (ρ 28) w) 0 ((b8_eq R ρ w).mp h) (fun ρ w h=>b9_ok R ρ w h)

def b6 (R:EP) (x0 x3 x5 x17:Value) (w:World) (_r:Tok R:=tok R):Prop :=
 SPL x17 (b7 R x0 w) (b8 R x0 x3 x5 w)
theorem b6_ok (R:EP) (ρ:Env) (w:World) (h:b6 R (ρ 0) (ρ 3) (ρ 5) (ρ 17) w):codeP Tryd.prog (pan R) p3 (q2 R) ρ w:=by
 have e:Code.cond (.tmp 17) (thnC p3) (elsC p3)=p3:=by kernel_rfl
 rw [←e]
 exact condQ' h (fun h=>b7_ok R ρ w h) (fun h=>b8_ok R ρ w h)
def b5_1 (R:EP) (x0 x3 x5:Value) (w6:World) (_r:Tok R:=tok R):Prop :=
 RUN Tryd.prog (pan R) (Instr.fieldAt 46 x3 1) w6 fun v7 w8 =>
 RUN Tryd.prog (pan R) (Instr.loadAt 9 v7) w8 fun v9 w10 =>
 RUN Tryd.prog (pan R) (bins .eql 9 (.tmp 23) (.const (Go.Value.string {data:=#[124] })) v9 (Go.Value.string {data:=#[124] })) w10 fun v11 w12 =>
 b6 R x0 x3 x5 v11 w12

def b5 (R:EP) (x0 x3 x5:Value) (w:World) (_r:Tok R:=tok R):Prop :=
 RUN Tryd.prog (pan R) (Instr.fieldAt 46 x3 0) w fun v1 w2 =>
 RUN Tryd.prog (pan R) (Instr.loadAt 3 v1) w2 fun v3 w4 =>
 RUN Tryd.prog (pan R) (bins .eql 3 (.tmp 19) (.const (Go.Value.int Go.IntKind.i64 4)) v3 (Go.Value.int Go.IntKind.i64 4)) w4 fun v5 w6 =>
 SPL v5
 (b5_1 R x0 x3 x5 w6)
 (b6 R x0 x3 x5 (Go.Value.bool Bool.false) w6)
abbrev q7 (R:EP):XP:=QX (fun ρ w=>b6 R (ρ 0) (ρ 3) (ρ 5) (ρ 17) w) (fun ρ w=>R (.returned (ρ 4)) w) [(0,(fun ρ w=>b3 R  w))]
theorem b5_eq (R:EP) (ρ:Env) (w:World):(b5 R (ρ 0) (ρ 3) (ρ 5) w)=codeP Tryd.prog (pan R) (preC 0 p2) (q7 R) ρ w:=by kernel_rfl
theorem b5_ok (R:EP) (ρ:Env) (w:World) (h:b5 R (ρ 0) (ρ 3) (ρ 5) w):codeP Tryd.prog (pan R) p2 (q2 R) ρ w:=by
 have e:appC 0 (preC 0 p2) (dropC 1 p2)=p2:=by kernel_rfl
 rw [←e]
 exact appQ (fun ρ w=>b6 R (ρ 0) (ρ 3) (ρ 5) (ρ 17) w) 0 ((b5_eq R ρ w).mp h) (fun ρ w h=>b6_ok R ρ w h)
abbrev q8 (R:EP):XP:=QX (fun ρ w=>b3 R  w) (fun ρ w=>R (.returned (ρ 4)) w) []
theorem k4_ok (R:EP) (ρ:Env) (w:World) (h:b5 R (ρ 0) (ρ 3) (ρ 5) w):codeP Tryd.prog (pan R) (fstC p1) (q8 R) ρ w:=by
 have e:Code.block 0 (blkC (fstC p1))=(fstC p1):=by kernel_rfl
 rw [←e]
 exact blockQ (b5_ok R ρ w h)
theorem k2_ok (R:EP) (ρ:Env) (w:World) (h:b5 R (ρ 0) (ρ 3) (ρ 5) w):codeP Tryd.prog (pan R) p1 (q1 R) ρ w:=by
 have e:Code.seq (fstC p1) (sndC p1)=p1:=by kernel_rfl
 rw [←e]
 exact seqQ (fun ρ w=>b3 R  w) (k4_ok R ρ w h) (fun ρ w h=>b3_ok R ρ w h)

def b1 (R:EP) (x0 x1:Value) (w:World) (_r:Tok R:=tok R):Prop :=
 RUN Tryd.prog (pan R) (Instr.box 46 x1) w fun v1 w2 =>
 NILC x0 fun v3 =>
 PUR Tryd.prog (Instr.fieldAt 69 v3 4) fun v4 =>
 LD Tryd.prog (Instr.loadAt 67 v4) (World.drew w2) fun v5 =>
 NILC x0 fun v6 =>
 PUR Tryd.prog (Instr.fieldAt 69 v6 4) fun v7 =>
 LD Tryd.prog (Instr.loadAt 67 v7) (World.drew w2) fun v8 =>
 LD Tryd.prog (Builtin.len_ #[67] 3 #[v8]) (World.drew w2) fun v9 =>
 PUR Tryd.prog (bins .sub 3 (.tmp 14) (.const (Go.Value.int Go.IntKind.i64 1)) v9 (Go.Value.int Go.IntKind.i64 1)) fun v10 =>
 PUR Tryd.prog (Instr.indexAt 67 v5 v10) fun v11 =>
 b5 R x0 v1 v11 (World.drew w2)
abbrev q9 (R:EP):XP:=QX (fun ρ w=>b5 R (ρ 0) (ρ 3) (ρ 5) w) (fun ρ w=>R (.returned (ρ 4)) w) []
theorem b1_eq (R:EP) (ρ:Env) (w:World):(b1 R (ρ 0) (ρ 1) w)=codeP Tryd.prog (pan R) (preC 1 code) (q9 R) ρ w:=by kernel_rfl
theorem b1_ok (R:EP) (ρ:Env) (w:World) (h:b1 R (ρ 0) (ρ 1) w):codeP Tryd.prog (pan R) code (q1 R) ρ w:=by
 have e:appC 1 (preC 1 code) (dropC 2 code)=code:=by kernel_rfl
 rw [←e]
 exact appQ (fun ρ w=>b5 R (ρ 0) (ρ 3) (ρ 5) w) 1 ((b1_eq R ρ w).mp h) (fun ρ w h=>k2_ok R ρ w h)
/-- What is owed for a call. -/
def run (R:EP) (a0 a1:Value) (w:World):Prop:=b1 R a0 a1 w
theorem calls (R:EP) (a0 a1:Value) (w:World) (h:run R a0 a1 w):Calls Tryd.prog id #[a0,a1] w R :=
 calls_of_t (f:=id) (fn:=Tryd.f88) (c:=code) (by kernel_rfl) Tryd.func88 (by kernel_rfl) (by kernel_rfl) (args:=[a0,a1]) (Nat.le_of_ble_eq_true rfl) rfl (b1_ok R (envOf [a0,a1]) w h)
theorem enters:Enters Tryd.prog id:=fun args w=>Tryd.call88 args w
theorem ct {a0 a1:Value} {w:World} {S:VP} (h:∀R:EP,(∀v w,S v w→R (.returned v) w)→run R a0 a1 w):Ct Tryd.prog id #[a0,a1] w S :=
 Ct.intro enters fun R hR=>calls R a0 a1 w (h R hR)
attribute [irreducible] b3 b7 b10 b13 b16 b18_1 b18 b17_1 b17_2 b17 b15 b14_1 b14_2 b14 b12 b11_1 b11_2 b11 b9 b8_1 b8 b6 b5_1 b5 b1 run
attribute [go_sem] b3 b7 b10 b13 b16 b18_1 b18 b17_1 b17_2 b17 b15 b14_1 b14_2 b14 b12 b11_1 b11_2 b11 b9 b8_1 b8 b6 b5_1 b5 b1 run
end ref04_Text_within
end Go.Proofs.YtckbgeedlobfaaaDoor
