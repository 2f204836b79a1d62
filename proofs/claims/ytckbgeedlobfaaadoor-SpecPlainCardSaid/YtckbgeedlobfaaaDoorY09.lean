/- Shallow programs, written by a program of ours (gen.py) off the translation; each is tied to the code by the kernel. -/
import Derived.Test.YtckbgeedlobfaaaDoorY04
set_option linter.unusedVariables false
set_option maxRecDepth 100000
namespace Go.Proofs.YtckbgeedlobfaaaDoor
open Go.Px Tryd Instr

/-! ### presage/presageref04.Read -/
namespace ref04_Read
noncomputable def code:Code:=bodyOf f13
noncomputable abbrev p1:Code:=dropC 4 code
def b3_1 (R:EP) (x2 x3 v8:Value) (w9:World) (_r:Tok R:=tok R):Prop :=
 RUN prog R (build 31 #[]) w9 fun v10 w11 =>
 RUNU prog R (storeAt 28 x2 v8) w11 fun w12 =>
 RUNU prog R (storeAt 31 x3 v10) w12 fun w13 =>
 LD prog (loadAt 28 x2) w13 fun r0=>LD prog (loadAt 31 x3) w13 fun r1=>R (.returned (.tuple #[r0,r1])) w13
def b3_2 (R:EP) (x2 x3 v1:Value) (w2:World) (_r:Tok R:=tok R):Prop :=
 RUN prog R (alloc 28 true (.tuple #[])) w2 fun v3 w4 =>
 RUNU prog R (storeAt 28 v3 v1) w4 fun w5 =>
 RUN prog R (loadAt 28 v3) w5 fun v6 w7 =>
 CALL prog R ref02_Copy.id #[v6] w7 fun v8 w9 =>
 b3_1 R x2 x3 v8 w9
def b3 (R:EP) (x2 x3 x4:Value) (w:World) (_r:Tok R:=tok R):Prop :=
 CALL prog R ref04_Text_grammar.id #[x4] w fun v1 w2 =>
 b3_2 R x2 x3 v1 w2
abbrev r0 (R:EP) (z:Env) (w:World):Prop:=LD prog (loadAt 28 (z 2)) w fun r0=>LD prog (loadAt 31 (z 3)) w fun r1=>R (.returned (.tuple #[r0,r1])) w
abbrev q1 (R:EP):XP:=QX (r0 R) (r0 R) []
theorem b3_ok (R:EP):TI prog R (sndC p1) (q1 R) fun z w=>b3 R (z 2) (z 3) (z 4) w:=ofT
noncomputable abbrev p2:Code:=dropC 1 (fstC p1)
def b5_1 (R:EP) (x2 x3:Value) (w:World) (_r:Tok R:=tok R):Prop :=
 RUN prog R (build 28 #[]) w fun v1 w2 =>
 RUN prog R (build 31 #[(0,(Value.int .i64 11))]) w2 fun v3 w4 =>
 RUNU prog R (storeAt 28 x2 v1) w4 fun w5 =>
 RUNU prog R (storeAt 31 x3 v3) w5 fun w6 =>
 LD prog (loadAt 28 x2) w6 fun r0=>LD prog (loadAt 31 x3) w6 fun r1=>R (.returned (.tuple #[r0,r1])) w6
def b5 (R:EP) (x2 x3 x4 x32:Value) (w:World) (_r:Tok R:=tok R):Prop :=
 SPL x32
 (b5_1 R x2 x3 w)
 (b3 R x2 x3 x4 w)
abbrev q2 (R:EP):XP:=QX (fun z w=>b3 R (z 2) (z 3) (z 4) w) (r0 R) []
theorem b5_ok (R:EP):TI prog R p2 (q2 R) fun z w=>b5 R (z 2) (z 3) (z 4) (z 32) w:=ofT
def b4_1 (R:EP) (x2 x3 x4:Value) (w18:World) (_r:Tok R:=tok R):Prop :=
 RUN prog R (fieldAt 69 x4 4) w18 fun v19 w20 =>
 RUN prog R (loadAt 67 v19) w20 fun v21 w22 =>
 RUN prog R (Builtin.len_ #[67] 3 #[v21]) w22 fun v23 w24 =>
 RUN prog R (bins .gtr 3 (.tmp 30) (.const (Value.int .i64 96)) v23 (Value.int .i64 96)) w24 fun v25 w26 =>
 b5 R x2 x3 x4 v25 w26
def b4 (R:EP) (x2 x3 x4:Value) (w:World) (_r:Tok R:=tok R):Prop :=
 RUN prog R (fieldAt 69 x4 2) w fun v1 w2 =>
 RUN prog R (loadAt 23 v1) w2 fun v3 w4 =>
 RUN prog R (Builtin.len_ #[23] 3 #[v3]) w4 fun v5 w6 =>
 RUN prog R (bins .sub 3 (.tmp 20) (.const (Value.int .i64 1)) v5 (Value.int .i64 1)) w6 fun v7 w8 =>
 RUN prog R (fieldAt 69 x4 6) w8 fun v9 w10 =>
 RUN prog R (loadAt 24 v9) w10 fun v11 w12 =>
 RUN prog R (Builtin.len_ #[24] 3 #[v11]) w12 fun v13 w14 =>
 RUN prog R (bins .add 3 (.tmp 21) (.tmp 24) v7 v13) w14 fun v15 w16 =>
 RUN prog R (bins .gtr 3 (.tmp 25) (.const (Value.int .i64 64)) v15 (Value.int .i64 64)) w16 fun v17 w18 =>
 SPL v17
 (b5 R x2 x3 x4 (Value.bool true) w18)
 (b4_1 R x2 x3 x4 w18)
theorem b4_ok (R:EP):TI prog R (fstC p1) (q2 R) fun z w=>b4 R (z 2) (z 3) (z 4) w:=appT 0 (b5_ok R)
theorem k2_ok (R:EP):TI prog R p1 (q1 R) fun z w=>b4 R (z 2) (z 3) (z 4) w:=seqT (b4_ok R) (b3_ok R)
def b1_1 (R:EP) (v1 v3 v9:Value) (w15:World) (_r:Tok R:=tok R):Prop :=
 RUN prog R (build 28 #[]) w15 fun v16 w17 =>
 RUN prog R (build 31 #[(0,(Value.int .i64 10)),(1,v9)]) w17 fun v18 w19 =>
 RUNU prog R (storeAt 28 v1 v16) w19 fun w20 =>
 RUNU prog R (storeAt 31 v3 v18) w20 fun w21 =>
 LD prog (loadAt 28 v1) w21 fun r0=>LD prog (loadAt 31 v3) w21 fun r1=>R (.returned (.tuple #[r0,r1])) w21
def b1_2 (R:EP) (v1 v3 v5:Value) (w6:World) (_r:Tok R:=tok R):Prop :=
 RUN prog R (extract v5 0) w6 fun v7 w8 =>
 RUN prog R (extract v5 1) w8 fun v9 w10 =>
 RUN prog R (alloc 69 true (.tuple #[])) w10 fun v11 w12 =>
 RUNU prog R (storeAt 69 v11 v7) w12 fun w13 =>
 RUN prog R (bins .geq 3 (.tmp 12) (.const (Value.int .i64 0)) v9 (Value.int .i64 0)) w13 fun v14 w15 =>
 SPL v14
 (b1_1 R v1 v3 v9 w15)
 (CALL prog R ref04_Text_number.id #[v11] w15 fun v22 w23 =>
 b4 R v1 v3 v11 w23)
def b1 (R:EP) (x0:Value) (w:World) (_r:Tok R:=tok R):Prop :=
 RUN prog R (alloc 28 true (.tuple #[])) w fun v1 w2 =>
 RUN prog R (alloc 31 true (.tuple #[])) w2 fun v3 w4 =>
 CALL prog R ref04_Take.id #[x0] w4 fun v5 w6 =>
 b1_2 R v1 v3 v5 w6
theorem b1_ok (R:EP):TI prog R code (q1 R) fun z w=>b1 R (z 0) w:=appT 3 (k2_ok R)
def run (R:EP) (a0:Value) (w:World):Prop:=b1 R a0 w
theorem calls (R:EP) (a0:Value) (w:World) (h:run R a0 w):Calls prog id #[a0] w R :=
 calls_of_cc (f:=id) (fn:=f13) (c:=code) (by kernel_rfl) func13 (by kernel_rfl) (by kernel_rfl) (args:=[a0]) (Nat.le_of_ble_eq_true rfl) rfl (b1_ok R (envOf [a0]) w h)
theorem enters:Enters prog id:=fun args w=>call13 args w
theorem ct {a0:Value} {w:World} {S:VP} (h:∀R:EP,(∀v w,S v w→R (.returned v) w)→run R a0 w):Ct prog id #[a0] w S :=
 Ct.intro enters fun R hR=>calls R a0 w (h R hR)
attribute [irreducible,go_sem] b3_1 b3_2 b3 b5_1 b5 b4_1 b4 b1_1 b1_2 b1 run
end ref04_Read

/-! ### presage/presageref04.Bad -/
namespace ref04_Bad
noncomputable def code:Code:=bodyOf f16
def b1_1 (R:EP) (v1:Value) (w2:World) (_r:Tok R:=tok R):Prop :=
 RUN prog R (extract v1 0) w2 fun v3 w4 =>
 RUN prog R (extract v1 1) w4 fun v5 w6 =>
 RUN prog R (alloc 69 true (.tuple #[])) w6 fun v7 w8 =>
 RUNU prog R (storeAt 69 v7 v3) w8 fun w9 =>
 R (.returned v5) w9
def b1 (R:EP) (x0:Value) (w:World) (_r:Tok R:=tok R):Prop :=
 CALL prog R ref04_Take.id #[x0] w fun v1 w2 =>
 b1_1 R v1 w2
abbrev r0 (R:EP) (z:Env) (w:World):Prop:=R (.returned (z 2)) w
abbrev q1 (R:EP):XP:=QX (r0 R) (r0 R) []
theorem b1_ok (R:EP):TI prog R code (q1 R) fun z w=>b1 R (z 0) w:=ofT
def run (R:EP) (a0:Value) (w:World):Prop:=b1 R a0 w
theorem calls (R:EP) (a0:Value) (w:World) (h:run R a0 w):Calls prog id #[a0] w R:=cls_t func16 [a0] (b1_ok R _ w h)
theorem enters:Enters prog id:=fun args w=>call16 args w
theorem ct {a0:Value} {w:World} {S:VP} (h:∀R:EP,(∀v w,S v w→R (.returned v) w)→run R a0 w):Ct prog id #[a0] w S :=
 Ct.intro enters fun R hR=>calls R a0 w (h R hR)
attribute [irreducible,go_sem] b1_1 b1 run
end ref04_Bad

/-! ### presage/presageref04.Take -/
namespace ref04_Take
noncomputable def code:Code:=bodyOf f30
noncomputable abbrev p1:Code:=dropC 3 code
noncomputable abbrev p2:Code:=dropC 2 (sndC p1)
def b5 (R:EP) (x2 x4:Value) (w:World) (_r:Tok R:=tok R):Prop :=
 RUN prog R (loadAt 69 x4) w fun v1 w2 =>
 RUNU prog R (storeAt 69 x2 v1) w2 fun w3 =>
 LD prog (loadAt 69 x2) w3 fun r0=>R (.returned (.tuple #[r0,(Value.int .i64 (-1))])) w3
abbrev r0 (R:EP) (z:Env) (w:World):Prop:=LD prog (loadAt 69 (z 2)) w fun r0=>R (.returned (.tuple #[r0,(z 3)])) w
abbrev q1 (R:EP):XP:=QX (r0 R) (r0 R) []
theorem b5_ok (R:EP):TI prog R (sndC p2) (q1 R) fun z w=>b5 R (z 2) (z 4) w:=ofT
noncomputable abbrev p3:Code:=dropC 1 (fstC p2)
def b7_1 (R:EP) (x0 x2 x4:Value) (w:World) (_r:Tok R:=tok R):Prop :=
 RUN prog R (loadAt 69 x4) w fun v1 w2 =>
 RUN prog R (Builtin.len_ #[9] 3 #[x0]) w2 fun v3 w4 =>
 RUNU prog R (storeAt 69 x2 v1) w4 fun w5 =>
 LD prog (loadAt 69 x2) w5 fun r0=>R (.returned (.tuple #[r0,v3])) w5
def b7 (R:EP) (x0 x2 x4 x57:Value) (w:World) (_r:Tok R:=tok R):Prop :=
 SPL x57
 (b7_1 R x0 x2 x4 w)
 (b5 R x2 x4 w)
abbrev q2 (R:EP):XP:=QX (fun z w=>b5 R (z 2) (z 4) w) (r0 R) []
theorem b7_ok (R:EP):TI prog R p3 (q2 R) fun z w=>b7 R (z 0) (z 2) (z 4) (z 57) w:=ofT
def b6_1 (R:EP) (x0 x2 x4 x9:Value) (w6:World) (_r:Tok R:=tok R):Prop :=
 RUN prog R (fieldAt 69 x4 7) w6 fun v7 w8 =>
 RUN prog R (loadAt 9 v7) w8 fun v9 w10 =>
 RUN prog R (bins .neq 9 (.tmp 51) (.const (Value.string ⟨#[]⟩)) v9 (Value.string ⟨#[]⟩)) w10 fun v11 w12 =>
 SPL v11
 (RUN prog R (Op.unary .not x9) w12 fun v13 w14 =>
 b7 R x0 x2 x4 v13 w14)
 (b7 R x0 x2 x4 (Value.bool false) w12)
def b6 (R:EP) (x0 x2 x4 x9:Value) (w:World) (_r:Tok R:=tok R):Prop :=
 RUN prog R (fieldAt 69 x4 0) w fun v1 w2 =>
 RUN prog R (loadAt 3 v1) w2 fun v3 w4 =>
 RUN prog R (bins .neq 3 (.tmp 47) (.const (Value.int .i64 9)) v3 (Value.int .i64 9)) w4 fun v5 w6 =>
 SPL v5
 (b7 R x0 x2 x4 (Value.bool true) w6)
 (b6_1 R x0 x2 x4 x9 w6)
theorem b6_ok (R:EP):TI prog R (fstC p2) (q2 R) fun z w=>b6 R (z 0) (z 2) (z 4) (z 9) w:=appT 0 (b7_ok R)
theorem k4_ok (R:EP):TI prog R p2 (q1 R) fun z w=>b6 R (z 0) (z 2) (z 4) (z 9) w:=seqT (b6_ok R) (b5_ok R)
def b3_1 (R:EP) (x2 x4 x6:Value) (w2:World) (_r:Tok R:=tok R):Prop :=
 RUN prog R (loadAt 69 x4) w2 fun v3 w4 =>
 RUNU prog R (storeAt 69 x2 v3) w4 fun w5 =>
 LD prog (loadAt 69 x2) w5 fun r0=>R (.returned (.tuple #[r0,x6])) w5
def b3_2 (R:EP) (x0 x2 x4:Value) (w2:World) (_r:Tok R:=tok R):Prop :=
 RUN prog R (fieldAt 69 x4 6) w2 fun v6 w7 =>
 RUN prog R (loadAt 24 v6) w7 fun v8 w9 =>
 RUN prog R (fieldAt 69 x4 7) w9 fun v10 w11 =>
 RUN prog R (loadAt 9 v10) w11 fun v12 w13 =>
 CALL prog R ref04_has.id #[v8,v12] w13 fun v14 w15 =>
 b6 R x0 x2 x4 v14 w15
def b3 (R:EP) (x0 x2 x4 x6:Value) (w:World) (_r:Tok R:=tok R):Prop :=
 RUN prog R (bins .geq 3 (.tmp 37) (.const (Value.int .i64 0)) x6 (Value.int .i64 0)) w fun v1 w2 =>
 SPL v1
 (b3_1 R x2 x4 x6 w2)
 (b3_2 R x0 x2 x4 w2)
theorem b3_ok (R:EP):TI prog R (sndC p1) (q1 R) fun z w=>b3 R (z 0) (z 2) (z 4) (z 6) w:=appT 1 (k4_ok R)
noncomputable abbrev p4:Code:=dropC 1 (fstC p1)
noncomputable abbrev p5:Code:=loopC (blkC p4)
def b11_1 (R:EP) (x2 x4 x5 x7:Value) (w12:World) (_r:Tok R:=tok R):Prop :=
 LD prog (loadAt 69 x4) (World.drew w12) fun v13 =>
 PUR prog (indexAt 41 x5 x7) fun v14 =>
 PUR prog (fieldAt 46 v14 2) fun v15 =>
 LD prog (loadAt 3 v15) (World.drew w12) fun v16 =>
 RUNU prog R (storeAt 69 x2 v13) (World.drew w12) fun w17 =>
 Sem.run prog (loadAt 3 v15) w17 = .ok v16 w17∧(LD prog (loadAt 69 x2) w17 fun r0=>R (.returned (.tuple #[r0,v16])) w17)
def b11_2 (R:EP) (C10:VP) (x2 x4 x5 x7 v9:Value) (w10:World) (_r:Tok R:=tok R) (_C10:Tok C10:=tok C10):Prop :=
 RUN prog R (Op.unary .not v9) w10 fun v11 w12 =>
 SPL v11
 (b11_1 R x2 x4 x5 x7 w12)
 (RUN prog R (bins .add 3 (.tmp 22) (.const (Value.int .i64 1)) x7 (Value.int .i64 1)) w12 fun v18 w19 =>
 C10 v18 w19)
def b11_3 (R:EP) (C10:VP) (x2 x4 x5 x7:Value) (w4:World) (_r:Tok R:=tok R) (_C10:Tok C10:=tok C10):Prop :=
 RUN prog R (indexAt 41 x5 x7) w4 fun v5 w6 =>
 RUN prog R (loadAt 46 v5) w6 fun v7 w8 =>
 CALL prog R ref04_Text_word.id #[x4,v7] w8 fun v9 w10 =>
 b11_2 R C10 x2 x4 x5 x7 v9 w10
def b11 (R:EP) (C10:VP) (x0 x2 x4 x5 x6 x7:Value) (w:World) (_r:Tok R:=tok R) (_C10:Tok C10:=tok C10):Prop :=
 RUN prog R (Builtin.len_ #[41] 3 #[x5]) w fun v1 w2 =>
 RUN prog R (bins .lss 3 (.tmp 18) (.tmp 20) x7 v1) w2 fun v3 w4 =>
 SPL v3
 (b11_3 R C10 x2 x4 x5 x7 w4)
 (b3 R x0 x2 x4 x6 w4)
abbrev q3 (R:EP) (C10:VP):XP:=QX (fun z w=>C10 (z 7) w) (r0 R) [(0,(fun z w=>b3 R (z 0) (z 2) (z 4) (z 6) w))]
theorem b11_ok (R:EP) (C10:VP):TI prog R p5 (q3 R C10) fun z w=>b11 R C10 (z 0) (z 2) (z 4) (z 5) (z 6) (z 7) w:=ofT
def l10 (R:EP) (x0 x2 x4 x5 x6 x7:Value) (w:World) (_r:Tok R:=tok R):Prop :=
 ∃(J:VP) (μ:Value→World→Nat),J x7 w∧∀y7 w0,J y7 w0→b11 R (fun z7 w1=>J z7 w1∧μ z7 w1<μ y7 w0) x0 x2 x4 x5 x6 y7 w0
abbrev q4 (R:EP):XP:=QX (fun z w=>b3 R (z 0) (z 2) (z 4) (z 6) w) (r0 R) [(0,(fun z w=>b3 R (z 0) (z 2) (z 4) (z 6) w))]
theorem l10_ok (R:EP):TI prog R (blkC p4) (q4 R) fun z w=>l10 R (z 0) (z 2) (z 4) (z 5) (z 6) (z 7) w:=fun z w h=>by
 unfold l10 at h
 obtain ⟨J,μ,h0,hr⟩:=h
 refine loopT (fun z' w'=>J (z' 7) w') (fun z' w'=>μ (z' 7) w') h0 fun z' w' hA hI=>b11_ok R (fun z7 w1=>J z7 w1∧μ z7 w1<μ (z' 7) w') z' w' ?_
 have h1:=hr (z' 7) w' hI
 rwa [←hA.on 0,←hA.on 2,←hA.on 4,←hA.on 5,←hA.on 6] at h1
theorem l10_intro (R:EP) (x0 x2 x4 x5 x6 x7:Value) (w:World) (J:VP) (μ:Value→World→Nat) (h0:J x7 w)
   (hr:∀y7 w0,J y7 w0→∀C10:VP,(∀z7 w1,J z7 w1→μ z7 w1<μ y7 w0→C10 z7 w1)→b11 R C10 x0 x2 x4 x5 x6 y7 w0):l10 R x0 x2 x4 x5 x6 x7 w:=by
 unfold l10
 exact ⟨J,μ,h0,fun y7 w0 hJ=>hr y7 w0 hJ _ (fun z7 w1 h1 h2=>⟨h1,h2⟩)⟩
abbrev q5 (R:EP):XP:=QX (fun z w=>b3 R (z 0) (z 2) (z 4) (z 6) w) (r0 R) []
theorem k9_ok (R:EP):TI prog R p4 (q5 R) fun z w=>l10 R (z 0) (z 2) (z 4) (z 5) (z 6) (z 7) w:=blockT 0 (l10_ok R)
def b8 (R:EP) (x0 x2 x4 x5 x6:Value) (w:World) (_r:Tok R:=tok R):Prop :=
 l10 R x0 x2 x4 x5 x6 (Value.int .i64 0) w
theorem b8_ok (R:EP):TI prog R (fstC p1) (q5 R) fun z w=>b8 R (z 0) (z 2) (z 4) (z 5) (z 6) w:=appT 0 (k9_ok R)
theorem k2_ok (R:EP):TI prog R p1 (q1 R) fun z w=>b8 R (z 0) (z 2) (z 4) (z 5) (z 6) w:=seqT (b8_ok R) (b3_ok R)
def b1_1 (R:EP) (x0 v1 v9 v12:Value) (w13:World) (_r:Tok R:=tok R):Prop :=
 RUN prog R (extract v12 0) w13 fun v14 w15 =>
 RUN prog R (extract v12 1) w15 fun v16 w17 =>
 b8 R x0 v1 v9 v14 v16 w17
def b1 (R:EP) (x0:Value) (w:World) (_r:Tok R:=tok R):Prop :=
 RUN prog R (alloc 69 true (.tuple #[])) w fun v1 w2 =>
 RUN prog R (build 39 #[]) w2 fun v3 w4 =>
 RUN prog R (buildSlice 23 1 #[(0,v3)]) w4 fun v5 w6 =>
 RUN prog R (build 69 #[(2,v5)]) w6 fun v7 w8 =>
 RUN prog R (alloc 69 true (.tuple #[])) w8 fun v9 w10 =>
 RUNU prog R (storeAt 69 v9 v7) w10 fun w11 =>
 CALL prog R ref03_All.id #[x0] w11 fun v12 w13 =>
 b1_1 R x0 v1 v9 v12 w13
theorem b1_ok (R:EP):TI prog R code (q1 R) fun z w=>b1 R (z 0) w:=appT 2 (k2_ok R)
def run (R:EP) (a0:Value) (w:World):Prop:=b1 R a0 w
theorem calls (R:EP) (a0:Value) (w:World) (h:run R a0 w):Calls prog id #[a0] w R :=
 calls_of_ct (f:=id) (fn:=f30) (c:=code) (by kernel_rfl) func30 (by kernel_rfl) (by kernel_rfl) (args:=[a0]) (Nat.le_of_ble_eq_true rfl) rfl (b1_ok R (envOf [a0]) w h)
theorem enters:Enters prog id:=fun args w=>call30 args w
theorem ct {a0:Value} {w:World} {S:VP} (h:∀R:EP,(∀v w,S v w→R (.returned v) w)→run R a0 w):Ct prog id #[a0] w S :=
 Ct.intro enters fun R hR=>calls R a0 w (h R hR)
attribute [irreducible] l10
attribute [irreducible,go_sem] b5 b7_1 b7 b6_1 b6 b3_1 b3_2 b3 b11_1 b11_2 b11_3 b11 b8 b1_1 b1 run
end ref04_Take

/-! ### (*presage/presageref04.Text).number -/
namespace ref04_Text_number
noncomputable def code:Code:=bodyOf f31
noncomputable abbrev p1:Code:=dropC 1 code
noncomputable abbrev p2:Code:=loopC (blkC p1)
noncomputable abbrev p3:Code:=dropC 1 p2

def b6 (R:EP) (C3:VP) (x2:Value) (w:World) (_r:Tok R:=tok R) (_C3:Tok C3:=tok C3):Prop :=
 RUN prog R (bins .add 3 (.tmp 16) (.const (Value.int .i64 1)) x2 (Value.int .i64 1)) w fun v1 w2 =>
 C3 v1 w2
abbrev r0 (R:EP) (z:Env) (w:World):Prop:=R (.returned (.tuple #[])) w
abbrev q1 (R:EP) (C3:VP):XP:=QX (fun z w=>C3 (z 2) w) (r0 R) [(0,(r0 R))]
theorem b6_ok (R:EP) (C3:VP):TI prog R (sndC p3) (q1 R C3) fun z w=>b6 R C3 (z 2) w:=ofT
noncomputable abbrev p4:Code:=blkC (fstC p3)
noncomputable abbrev p5:Code:=dropC 2 p4
noncomputable abbrev p6:Code:=dropC 1 (sndC p5)
noncomputable abbrev p7:Code:=dropC 1 p6
noncomputable abbrev p8:Code:=loopC (blkC p7)
noncomputable abbrev p9:Code:=dropC 2 p8

def b15 (R:EP) (C3:VP) (C13:VP) (x7:Value) (w:World) (_r:Tok R:=tok R) (_C3:Tok C3:=tok C3) (_C13:Tok C13:=tok C13):Prop :=
 RUN prog R (bins .add 3 (.tmp 62) (.const (Value.int .i64 1)) x7 (Value.int .i64 1)) w fun v1 w2 =>
 C13 v1 w2
abbrev q2 (R:EP) (C3:VP) (C13:VP):XP:=QX (fun z w=>C13 (z 7) w) (r0 R) [(8,(fun z w=>b6 R C3 (z 2) w)),(2,(fun z w=>b6 R C3 (z 2) w)),(0,(r0 R))]
theorem b15_ok (R:EP) (C3:VP) (C13:VP):TI prog R p9 (q2 R C3 C13) fun z w=>b15 R C3 C13 (z 7) w:=ofT
def b14_1 (R:EP) (C3:VP) (C13:VP) (x0 x4 x7:Value) (w12:World) (_r:Tok R:=tok R) (_C3:Tok C3:=tok C3) (_C13:Tok C13:=tok C13):Prop :=
 NILC x0 fun v13 =>
 PUR prog (fieldAt 69 v13 2) fun v14 =>
 LD prog (loadAt 23 v14) (World.drew w12) fun v15 =>
 PUR prog (indexAt 24 x4 x7) fun v16 =>
 LD prog (loadAt 9 v16) (World.drew w12) fun v17 =>
 PUR prog (build 39 #[(0,v17)]) fun v18 =>
 RUN prog R (buildSlice 23 1 #[(0,v18)]) (World.drew w12) fun v19 w20 =>
 Sem.run prog (loadAt 23 v14) w20 = .ok v15 w20∧(RUN prog R (Builtin.append_ #[23,23] 23 #[v15,v19]) w20 fun v21 w22 =>
 NILC x0 fun v23 =>
 PUR prog (fieldAt 69 v23 2) fun v24 =>
 RUNU prog R (storeAt 23 v24 v21) w22 fun w25 =>
 b15 R C3 C13 x7 w25)
def b14_2 (R:EP) (C3:VP) (C13:VP) (x0 x4 x7:Value) (w4:World) (_r:Tok R:=tok R) (_C3:Tok C3:=tok C3) (_C13:Tok C13:=tok C13):Prop :=
 RUN prog R (indexAt 24 x4 x7) w4 fun v5 w6 =>
 RUN prog R (loadAt 9 v5) w6 fun v7 w8 =>
 CALL prog R ref04_Text_term.id #[x0,v7] w8 fun v9 w10 =>
 RUN prog R (bins .lss 3 (.tmp 70) (.const (Value.int .i64 0)) v9 (Value.int .i64 0)) w10 fun v11 w12 =>
 SPL v11
 (b14_1 R C3 C13 x0 x4 x7 w12)
 (b15 R C3 C13 x7 w12)

def b14 (R:EP) (C3:VP) (C13:VP) (x0 x2 x4 x7:Value) (w:World) (_r:Tok R:=tok R) (_C3:Tok C3:=tok C3) (_C13:Tok C13:=tok C13):Prop :=
 RUN prog R (Builtin.len_ #[24] 3 #[x4]) w fun v1 w2 =>
 RUN prog R (bins .lss 3 (.tmp 58) (.tmp 60) x7 v1) w2 fun v3 w4 =>
 SPL v3
 (b14_2 R C3 C13 x0 x4 x7 w4)
 (b6 R C3 x2 w4)
theorem b14_ok (R:EP) (C3:VP) (C13:VP):TI prog R p8 (q2 R C3 C13) fun z w=>b14 R C3 C13 (z 0) (z 2) (z 4) (z 7) w:=appT 1 (b15_ok R C3 C13)

def l13 (R:EP) (C3:VP) (x0 x2 x4 x7:Value) (w:World) (_r:Tok R:=tok R) (_C3:Tok C3:=tok C3):Prop :=
 ∃(J:VP) (μ:Value→World→Nat),J x7 w∧∀y7 w0,J y7 w0→b14 R C3 (fun z7 w1=>J z7 w1∧μ z7 w1<μ y7 w0) x0 x2 x4 y7 w0
abbrev q3 (R:EP) (C3:VP):XP:=QX (fun z w=>b6 R C3 (z 2) w) (r0 R) [(8,(fun z w=>b6 R C3 (z 2) w)),(2,(fun z w=>b6 R C3 (z 2) w)),(0,(r0 R))]
theorem l13_ok (R:EP) (C3:VP):TI prog R (blkC p7) (q3 R C3) fun z w=>l13 R C3 (z 0) (z 2) (z 4) (z 7) w:=fun z w h=>by
 unfold l13 at h
 obtain ⟨J,μ,h0,hr⟩:=h
 refine loopT (fun z' w'=>J (z' 7) w') (fun z' w'=>μ (z' 7) w') h0 fun z' w' hA hI=>b14_ok R C3 (fun z7 w1=>J z7 w1∧μ z7 w1<μ (z' 7) w') z' w' ?_
 have h1:=hr (z' 7) w' hI
 rwa [←hA.on 0,←hA.on 2,←hA.on 4] at h1
theorem l13_intro (R:EP) (C3:VP) (x0 x2 x4 x7:Value) (w:World) (J:VP) (μ:Value→World→Nat) (h0:J x7 w)
   (hr:∀y7 w0,J y7 w0→∀C13:VP,(∀z7 w1,J z7 w1→μ z7 w1<μ y7 w0→C13 z7 w1)→b14 R C3 C13 x0 x2 x4 y7 w0):l13 R C3 x0 x2 x4 x7 w:=by
 unfold l13
 exact ⟨J,μ,h0,fun y7 w0 hJ=>hr y7 w0 hJ _ (fun z7 w1 h1 h2=>⟨h1,h2⟩)⟩
abbrev q4 (R:EP) (C3:VP):XP:=QX (fun z w=>b6 R C3 (z 2) w) (r0 R) [(2,(fun z w=>b6 R C3 (z 2) w)),(0,(r0 R))]
theorem k12_ok (R:EP) (C3:VP):TI prog R p7 (q4 R C3) fun z w=>l13 R C3 (z 0) (z 2) (z 4) (z 7) w:=blockT 4 (l13_ok R C3)

def b11 (R:EP) (C3:VP) (x0 x2 x4:Value) (w:World) (_r:Tok R:=tok R) (_C3:Tok C3:=tok C3):Prop :=
 l13 R C3 x0 x2 x4 (Value.int .i64 0) w
theorem b11_ok (R:EP) (C3:VP):TI prog R p6 (q4 R C3) fun z w=>b11 R C3 (z 0) (z 2) (z 4) w:=appT 0 (k12_ok R C3)
def b10_1 (R:EP) (C3:VP) (x0 x2 x3 x4:Value) (w6:World) (_r:Tok R:=tok R) (_C3:Tok C3:=tok C3):Prop :=
 RUN prog R (fieldAt 124 x3 3) w6 fun v7 w8 =>
 RUN prog R (loadAt 9 v7) w8 fun v9 w10 =>
 RUN prog R (buildSlice 24 1 #[(0,v9)]) w10 fun v11 w12 =>
 RUN prog R (Builtin.append_ #[24,24] 24 #[x4,v11]) w12 fun v13 w14 =>
 b11 R C3 x0 x2 v13 w14

def b10 (R:EP) (C3:VP) (x0 x2 x3 x4:Value) (w:World) (_r:Tok R:=tok R) (_C3:Tok C3:=tok C3):Prop :=
 RUN prog R (fieldAt 124 x3 2) w fun v1 w2 =>
 RUN prog R (loadAt 3 v1) w2 fun v3 w4 =>
 RUN prog R (bins .eql 3 (.tmp 51) (.const (Value.int .i64 1)) v3 (Value.int .i64 1)) w4 fun v5 w6 =>
 SPL v5
 (b10_1 R C3 x0 x2 x3 x4 w6)
 (b11 R C3 x0 x2 x4 w6)
theorem b10_ok (R:EP) (C3:VP):TI prog R (sndC p5) (q4 R C3) fun z w=>b10 R C3 (z 0) (z 2) (z 3) (z 4) w:=appT 0 (b11_ok R C3)
noncomputable abbrev p10:Code:=dropC 1 (fstC p5)
noncomputable abbrev p11:Code:=loopC (blkC p10)
noncomputable abbrev p12:Code:=dropC 2 p11

def b20 (R:EP) (C3:VP) (C18:Value→VP) (x4 x5:Value) (w:World) (_r:Tok R:=tok R) (_C3:Tok C3:=tok C3) (_C18:Tok C18:=tok C18):Prop :=
 RUN prog R (bins .add 3 (.tmp 30) (.const (Value.int .i64 1)) x5 (Value.int .i64 1)) w fun v1 w2 =>
 C18 x4 v1 w2
abbrev q5 (R:EP) (C3:VP) (C18:Value→VP):XP:=QX (fun z w=>C18 (z 4) (z 5) w) (r0 R) [(4,(fun z w=>b10 R C3 (z 0) (z 2) (z 3) (z 4) w)),(2,(fun z w=>b6 R C3 (z 2) w)),(0,(r0 R))]
theorem b20_ok (R:EP) (C3:VP) (C18:Value→VP):TI prog R p12 (q5 R C3 C18) fun z w=>b20 R C3 C18 (z 4) (z 5) w:=ofT
def b19_1 (R:EP) (C3:VP) (C18:Value→VP) (x3 x4 x5:Value) (w20:World) (_r:Tok R:=tok R) (_C3:Tok C3:=tok C3) (_C18:Tok C18:=tok C18):Prop :=
 RUN prog R (fieldAt 124 x3 1) w20 fun v21 w22 =>
 RUN prog R (loadAt 41 v21) w22 fun v23 w24 =>
 RUN prog R (indexAt 41 v23 x5) w24 fun v25 w26 =>
 RUN prog R (fieldAt 46 v25 1) w26 fun v27 w28 =>
 RUN prog R (loadAt 9 v27) w28 fun v29 w30 =>
 RUN prog R (buildSlice 24 1 #[(0,v29)]) w30 fun v31 w32 =>
 RUN prog R (Builtin.append_ #[24,24] 24 #[x4,v31]) w32 fun v33 w34 =>
 b20 R C3 C18 v33 x5 w34
def b19_2 (R:EP) (C3:VP) (C18:Value→VP) (x0 x3 x4 x5:Value) (w8:World) (_r:Tok R:=tok R) (_C3:Tok C3:=tok C3) (_C18:Tok C18:=tok C18):Prop :=
 RUN prog R (fieldAt 124 x3 1) w8 fun v9 w10 =>
 RUN prog R (loadAt 41 v9) w10 fun v11 w12 =>
 RUN prog R (indexAt 41 v11 x5) w12 fun v13 w14 =>
 RUN prog R (loadAt 46 v13) w14 fun v15 w16 =>
 CALL prog R ref04_Text_isNon.id #[x0,v15] w16 fun v17 w18 =>
 RUN prog R (Op.unary .not v17) w18 fun v19 w20 =>
 SPL v19
 (b19_1 R C3 C18 x3 x4 x5 w20)
 (b20 R C3 C18 x4 x5 w20)

def b19 (R:EP) (C3:VP) (C18:Value→VP) (x0 x2 x3 x4 x5:Value) (w:World) (_r:Tok R:=tok R) (_C3:Tok C3:=tok C3) (_C18:Tok C18:=tok C18):Prop :=
 RUN prog R (fieldAt 124 x3 1) w fun v1 w2 =>
 RUN prog R (loadAt 41 v1) w2 fun v3 w4 =>
 RUN prog R (Builtin.len_ #[41] 3 #[v3]) w4 fun v5 w6 =>
 RUN prog R (bins .lss 3 (.tmp 25) (.tmp 28) x5 v5) w6 fun v7 w8 =>
 SPL v7
 (b19_2 R C3 C18 x0 x3 x4 x5 w8)
 (b10 R C3 x0 x2 x3 x4 w8)
theorem b19_ok (R:EP) (C3:VP) (C18:Value→VP):TI prog R p11 (q5 R C3 C18) fun z w=>b19 R C3 C18 (z 0) (z 2) (z 3) (z 4) (z 5) w:=appT 1 (b20_ok R C3 C18)

def l18 (R:EP) (C3:VP) (x0 x2 x3 x4 x5:Value) (w:World) (_r:Tok R:=tok R) (_C3:Tok C3:=tok C3):Prop :=
 ∃(J:Value→VP) (μ:Value→Value→World→Nat),J x4 x5 w∧∀y4 y5 w0,J y4 y5 w0→b19 R C3 (fun z4 z5 w1=>J z4 z5 w1∧μ z4 z5 w1<μ y4 y5 w0) x0 x2 x3 y4 y5 w0
abbrev q6 (R:EP) (C3:VP):XP:=QX (fun z w=>b10 R C3 (z 0) (z 2) (z 3) (z 4) w) (r0 R) [(4,(fun z w=>b10 R C3 (z 0) (z 2) (z 3) (z 4) w)),(2,(fun z w=>b6 R C3 (z 2) w)),(0,(r0 R))]
theorem l18_ok (R:EP) (C3:VP):TI prog R (blkC p10) (q6 R C3) fun z w=>l18 R C3 (z 0) (z 2) (z 3) (z 4) (z 5) w:=fun z w h=>by
 unfold l18 at h
 obtain ⟨J,μ,h0,hr⟩:=h
 refine loopT (fun z' w'=>J (z' 4) (z' 5) w') (fun z' w'=>μ (z' 4) (z' 5) w') h0 fun z' w' hA hI=>b19_ok R C3 (fun z4 z5 w1=>J z4 z5 w1∧μ z4 z5 w1<μ (z' 4) (z' 5) w') z' w' ?_
 have h1:=hr (z' 4) (z' 5) w' hI
 rwa [←hA.on 0,←hA.on 2,←hA.on 3] at h1
theorem l18_intro (R:EP) (C3:VP) (x0 x2 x3 x4 x5:Value) (w:World) (J:Value→VP) (μ:Value→Value→World→Nat) (h0:J x4 x5 w)
   (hr:∀y4 y5 w0,J y4 y5 w0→∀C18:Value→VP,(∀z4 z5 w1,J z4 z5 w1→μ z4 z5 w1<μ y4 y5 w0→C18 z4 z5 w1)→b19 R C3 C18 x0 x2 x3 y4 y5 w0):l18 R C3 x0 x2 x3 x4 x5 w:=by
 unfold l18
 exact ⟨J,μ,h0,fun y4 y5 w0 hJ=>hr y4 y5 w0 hJ _ (fun z4 z5 w1 h1 h2=>⟨h1,h2⟩)⟩
abbrev q7 (R:EP) (C3:VP):XP:=QX (fun z w=>b10 R C3 (z 0) (z 2) (z 3) (z 4) w) (r0 R) [(2,(fun z w=>b6 R C3 (z 2) w)),(0,(r0 R))]
theorem k17_ok (R:EP) (C3:VP):TI prog R p10 (q7 R C3) fun z w=>l18 R C3 (z 0) (z 2) (z 3) (z 4) (z 5) w:=blockT 2 (l18_ok R C3)

def b16 (R:EP) (C3:VP) (x0 x2 x3 x4:Value) (w:World) (_r:Tok R:=tok R) (_C3:Tok C3:=tok C3):Prop :=
 l18 R C3 x0 x2 x3 x4 (Value.int .i64 0) w
theorem b16_ok (R:EP) (C3:VP):TI prog R (fstC p5) (q7 R C3) fun z w=>b16 R C3 (z 0) (z 2) (z 3) (z 4) w:=appT 0 (k17_ok R C3)
theorem k9_ok (R:EP) (C3:VP):TI prog R p5 (q4 R C3) fun z w=>b16 R C3 (z 0) (z 2) (z 3) (z 4) w:=seqT (b16_ok R C3) (b10_ok R C3)

def b8 (R:EP) (C3:VP) (x0 x2:Value) (w:World) (_r:Tok R:=tok R) (_C3:Tok C3:=tok C3):Prop :=
 NILC x0 fun v1 =>
 RUN prog R (fieldAt 69 v1 4) w fun v2 w3 =>
 RUN prog R (loadAt 67 v2) w3 fun v4 w5 =>
 RUN prog R (indexAt 67 v4 x2) w5 fun v6 w7 =>
 RUN prog R (loadAt 124 v6) w7 fun v8 w9 =>
 RUN prog R (alloc 124 true (.tuple #[])) w9 fun v10 w11 =>
 RUNU prog R (storeAt 124 v10 v8) w11 fun w12 =>
 b16 R C3 x0 x2 v10 (Value.slice Option.none 0 0) w12
theorem b8_ok (R:EP) (C3:VP):TI prog R p4 (q4 R C3) fun z w=>b8 R C3 (z 0) (z 2) w:=appT 1 (k9_ok R C3)
abbrev q8 (R:EP) (C3:VP):XP:=QX (fun z w=>b6 R C3 (z 2) w) (r0 R) [(0,(r0 R))]
theorem k7_ok (R:EP) (C3:VP):TI prog R (fstC p3) (q8 R C3) fun z w=>b8 R C3 (z 0) (z 2) w:=blockT 1 (b8_ok R C3)
theorem k5_ok (R:EP) (C3:VP):TI prog R p3 (q1 R C3) fun z w=>b8 R C3 (z 0) (z 2) w:=seqT (k7_ok R C3) (b6_ok R C3)

def b4 (R:EP) (C3:VP) (x0 x2:Value) (w:World) (_r:Tok R:=tok R) (_C3:Tok C3:=tok C3):Prop :=
 NILC x0 fun v1 =>
 RUN prog R (fieldAt 69 v1 4) w fun v2 w3 =>
 RUN prog R (loadAt 67 v2) w3 fun v4 w5 =>
 RUN prog R (Builtin.len_ #[67] 3 #[v4]) w5 fun v6 w7 =>
 RUN prog R (bins .lss 3 (.tmp 9) (.tmp 14) x2 v6) w7 fun v8 w9 =>
 SPL v8
 (b8 R C3 x0 x2 w9)
 (R (.returned (.tuple #[])) w9)
theorem b4_ok (R:EP) (C3:VP):TI prog R p2 (q1 R C3) fun z w=>b4 R C3 (z 0) (z 2) w:=appT 0 (k5_ok R C3)

def l3 (R:EP) (x0 x2:Value) (w:World) (_r:Tok R:=tok R):Prop :=
 ∃(J:VP) (μ:Value→World→Nat),J x2 w∧∀y2 w0,J y2 w0→b4 R (fun z2 w1=>J z2 w1∧μ z2 w1<μ y2 w0) x0 y2 w0
abbrev q9 (R:EP):XP:=QX (r0 R) (r0 R) [(0,(r0 R))]
theorem l3_ok (R:EP):TI prog R (blkC p1) (q9 R) fun z w=>l3 R (z 0) (z 2) w:=fun z w h=>by
 unfold l3 at h
 obtain ⟨J,μ,h0,hr⟩:=h
 refine loopT (fun z' w'=>J (z' 2) w') (fun z' w'=>μ (z' 2) w') h0 fun z' w' hA hI=>b4_ok R (fun z2 w1=>J z2 w1∧μ z2 w1<μ (z' 2) w') z' w' ?_
 have h1:=hr (z' 2) w' hI
 rwa [←hA.on 0] at h1
abbrev q10 (R:EP):XP:=QX (r0 R) (r0 R) []
theorem k2_ok (R:EP):TI prog R p1 (q10 R) fun z w=>l3 R (z 0) (z 2) w:=blockT 0 (l3_ok R)

def b1 (R:EP) (x0:Value) (w:World) (_r:Tok R:=tok R):Prop :=
 l3 R x0 (Value.int .i64 0) w
theorem b1_ok (R:EP):TI prog R code (q10 R) fun z w=>b1 R (z 0) w:=appT 0 (k2_ok R)
def run (R:EP) (a0:Value) (w:World):Prop:=b1 R a0 w
theorem calls (R:EP) (a0:Value) (w:World) (h:run R a0 w):Calls prog id #[a0] w R:=cls_0 func31 [a0] (b1_ok R _ w h)
theorem enters:Enters prog id:=fun args w=>call31 args w
theorem ct {a0:Value} {w:World} {S:VP} (h:∀R:EP,(∀v w,S v w→R (.returned v) w)→run R a0 w):Ct prog id #[a0] w S :=
 Ct.intro enters fun R hR=>calls R a0 w (h R hR)
attribute [irreducible] l13 l18 l3
attribute [irreducible,go_sem] b6 b15 b14_1 b14_2 b14 b11 b10_1 b10 b20 b19_1 b19_2 b19 b16 b8 b4 b1 run
end ref04_Text_number

/-! ### (*presage/presageref04.Text).grammar -/
namespace ref04_Text_grammar
noncomputable def code:Code:=bodyOf f32
noncomputable abbrev p1:Code:=dropC 3 code

def b3 (R:EP) (x2 x3:Value) (w:World) (_r:Tok R:=tok R):Prop :=
 RUN prog R (loadAt 28 x3) w fun v1 w2 =>
 RUNU prog R (storeAt 28 x2 v1) w2 fun w3 =>
 LD prog (loadAt 28 x2) w3 fun r0=>R (.returned r0) w3
abbrev r0 (R:EP) (z:Env) (w:World):Prop:=LD prog (loadAt 28 (z 2)) w fun r0=>R (.returned r0) w
abbrev q1 (R:EP):XP:=QX (r0 R) (r0 R) []
theorem b3_ok (R:EP):TI prog R (sndC p1) (q1 R) fun z w=>b3 R (z 2) (z 3) w:=ofT
noncomputable abbrev p2:Code:=dropC 1 (fstC p1)
noncomputable abbrev p3:Code:=loopC (blkC p2)
noncomputable abbrev p4:Code:=dropC 1 p3

def b9 (R:EP) (C6:VP) (x4:Value) (w:World) (_r:Tok R:=tok R) (_C6:Tok C6:=tok C6):Prop :=
 RUN prog R (bins .add 3 (.tmp 46) (.const (Value.int .i64 1)) x4 (Value.int .i64 1)) w fun v1 w2 =>
 C6 v1 w2
abbrev q2 (R:EP) (C6:VP):XP:=QX (fun z w=>C6 (z 4) w) (r0 R) [(0,(fun z w=>b3 R (z 2) (z 3) w))]
theorem b9_ok (R:EP) (C6:VP):TI prog R (sndC p4) (q2 R C6) fun z w=>b9 R C6 (z 4) w:=ofT
noncomputable abbrev p5:Code:=blkC (fstC p4)
noncomputable abbrev p6:Code:=dropC 2 p5
noncomputable abbrev p7:Code:=dropC 1 (sndC p6)
noncomputable abbrev p8:Code:=dropC 1 p7

def b15 (R:EP) (C6:VP) (x3 x4 x6:Value) (w:World) (_r:Tok R:=tok R) (_C6:Tok C6:=tok C6):Prop :=
 RUN prog R (fieldAt 28 x3 4) w fun v1 w2 =>
 RUN prog R (loadAt 26 v1) w2 fun v3 w4 =>
 RUN prog R (loadAt 37 x6) w4 fun v5 w6 =>
 RUN prog R (buildSlice 26 1 #[(0,v5)]) w6 fun v7 w8 =>
 RUN prog R (Builtin.append_ #[26,26] 26 #[v3,v7]) w8 fun v9 w10 =>
 RUN prog R (fieldAt 28 x3 4) w10 fun v11 w12 =>
 RUNU prog R (storeAt 26 v11 v9) w12 fun w13 =>
 b9 R C6 x4 w13
abbrev q3 (R:EP) (C6:VP):XP:=QX (fun z w=>b9 R C6 (z 4) w) (r0 R) [(2,(fun z w=>b9 R C6 (z 4) w)),(0,(fun z w=>b3 R (z 2) (z 3) w))]
theorem b15_ok (R:EP) (C6:VP):TI prog R p8 (q3 R C6) fun z w=>b15 R C6 (z 3) (z 4) (z 6) w:=ofT
def b14_1 (R:EP) (C6:VP) (x3 x4 x6:Value) (w6:World) (_r:Tok R:=tok R) (_C6:Tok C6:=tok C6):Prop :=
 RUN prog R (fieldAt 37 x6 2) w6 fun v7 w8 =>
 RUNU prog R (storeAt 3 v7 (Value.int .i64 0)) w8 fun w9 =>
 b15 R C6 x3 x4 x6 w9

def b14 (R:EP) (C6:VP) (x3 x4 x5 x6:Value) (w:World) (_r:Tok R:=tok R) (_C6:Tok C6:=tok C6):Prop :=
 RUN prog R (fieldAt 124 x5 2) w fun v1 w2 =>
 RUN prog R (loadAt 3 v1) w2 fun v3 w4 =>
 RUN prog R (bins .eql 3 (.tmp 112) (.const (Value.int .i64 2)) v3 (Value.int .i64 2)) w4 fun v5 w6 =>
 SPL v5
 (b14_1 R C6 x3 x4 x6 w6)
 (b15 R C6 x3 x4 x6 w6)
theorem b14_ok (R:EP) (C6:VP):TI prog R p7 (q3 R C6) fun z w=>b14 R C6 (z 3) (z 4) (z 5) (z 6) w:=appT 0 (b15_ok R C6)
def b13_1 (R:EP) (C6:VP) (x3 x4 x5 x6 v8 v9 v12:Value) (w13:World) (_r:Tok R:=tok R) (_C6:Tok C6:=tok C6):Prop :=
 Sem.run prog (loadAt 23 v8) w13 = .ok v9 w13∧(PUR prog (indexAt 23 v9 v12) fun v14 =>
 PUR prog (fieldAt 39 v14 1) fun v15 =>
 LD prog (loadAt 3 v15) w13 fun v16 =>
 PUR prog (fieldAt 37 x6 2) fun v17 =>
 RUNU prog R (storeAt 3 v17 v16) w13 fun w18 =>
 b14 R C6 x3 x4 x5 x6 w18)
def b13_2 (R:EP) (C6:VP) (x0 x3 x4 x5 x6:Value) (w6:World) (_r:Tok R:=tok R) (_C6:Tok C6:=tok C6):Prop :=
 NILC x0 fun v7 =>
 PUR prog (fieldAt 69 v7 2) fun v8 =>
 LD prog (loadAt 23 v8) (World.drew w6) fun v9 =>
 PUR prog (fieldAt 124 x5 3) fun v10 =>
 LD prog (loadAt 9 v10) (World.drew w6) fun v11 =>
 CALL prog R ref04_Text_term.id #[x0,v11] (World.drew w6) fun v12 w13 =>
 b13_1 R C6 x3 x4 x5 x6 v8 v9 v12 w13

def b13 (R:EP) (C6:VP) (x0 x3 x4 x5 x6:Value) (w:World) (_r:Tok R:=tok R) (_C6:Tok C6:=tok C6):Prop :=
 RUN prog R (fieldAt 124 x5 2) w fun v1 w2 =>
 RUN prog R (loadAt 3 v1) w2 fun v3 w4 =>
 RUN prog R (bins .eql 3 (.tmp 97) (.const (Value.int .i64 1)) v3 (Value.int .i64 1)) w4 fun v5 w6 =>
 SPL v5
 (b13_2 R C6 x0 x3 x4 x5 x6 w6)
 (b14 R C6 x3 x4 x5 x6 w6)
theorem b13_ok (R:EP) (C6:VP):TI prog R (sndC p6) (q3 R C6) fun z w=>b13 R C6 (z 0) (z 3) (z 4) (z 5) (z 6) w:=appT 0 (b14_ok R C6)
noncomputable abbrev p9:Code:=dropC 1 (fstC p6)
noncomputable abbrev p10:Code:=loopC (blkC p9)
noncomputable abbrev p11:Code:=dropC 2 p10

def b20 (R:EP) (C6:VP) (C18:VP) (x7:Value) (w:World) (_r:Tok R:=tok R) (_C6:Tok C6:=tok C6) (_C18:Tok C18:=tok C18):Prop :=
 RUN prog R (bins .add 3 (.tmp 65) (.const (Value.int .i64 1)) x7 (Value.int .i64 1)) w fun v1 w2 =>
 C18 v1 w2
abbrev q4 (R:EP) (C6:VP) (C18:VP):XP:=QX (fun z w=>C18 (z 7) w) (r0 R) [(4,(fun z w=>b13 R C6 (z 0) (z 3) (z 4) (z 5) (z 6) w)),(2,(fun z w=>b9 R C6 (z 4) w)),(0,(fun z w=>b3 R (z 2) (z 3) w))]
theorem b20_ok (R:EP) (C6:VP) (C18:VP):TI prog R p11 (q4 R C6 C18) fun z w=>b20 R C6 C18 (z 7) w:=ofT
def b19_1 (R:EP) (C6:VP) (C18:VP) (x0 x6 x7 v17:Value) (w38:World) (_r:Tok R:=tok R) (_C6:Tok C6:=tok C6) (_C18:Tok C18:=tok C18):Prop :=
 NILC x0 fun v39 =>
 RUN prog R (fieldAt 69 v39 2) w38 fun v40 w41 =>
 RUN prog R (loadAt 23 v40) w41 fun v42 w43 =>
 RUN prog R (indexAt 23 v42 v17) w43 fun v44 w45 =>
 RUN prog R (fieldAt 39 v44 1) w45 fun v46 w47 =>
 RUN prog R (loadAt 3 v46) w47 fun v48 w49 =>
 RUN prog R (fieldAt 37 x6 2) w49 fun v50 w51 =>
 RUNU prog R (storeAt 3 v50 v48) w51 fun w52 =>
 b20 R C6 C18 x7 w52
def b19_2 (R:EP) (C6:VP) (C18:VP) (x0 x6 x7 v17:Value) (w18:World) (_r:Tok R:=tok R) (_C6:Tok C6:=tok C6) (_C18:Tok C18:=tok C18):Prop :=
 RUN prog R (fieldAt 37 x6 1) w18 fun v19 w20 =>
 RUN prog R (loadAt 25 v19) w20 fun v21 w22 =>
 RUN prog R (buildSlice 25 1 #[(0,v17)]) w22 fun v23 w24 =>
 RUN prog R (Builtin.append_ #[25,25] 25 #[v21,v23]) w24 fun v25 w26 =>
 RUN prog R (fieldAt 37 x6 1) w26 fun v27 w28 =>
 RUNU prog R (storeAt 25 v27 v25) w28 fun w29 =>
 NILC x0 fun v30 =>
 RUN prog R (fieldAt 69 v30 2) w29 fun v31 w32 =>
 RUN prog R (loadAt 23 v31) w32 fun v33 w34 =>
 RUN prog R (Builtin.len_ #[23] 3 #[v33]) w34 fun v35 w36 =>
 RUN prog R (bins .lss 3 (.tmp 80) (.tmp 85) v17 v35) w36 fun v37 w38 =>
 SPL v37
 (b19_1 R C6 C18 x0 x6 x7 v17 w38)
 (b20 R C6 C18 x7 w38)
def b19_3 (R:EP) (C6:VP) (C18:VP) (x0 x5 x6 x7:Value) (w8:World) (_r:Tok R:=tok R) (_C6:Tok C6:=tok C6) (_C18:Tok C18:=tok C18):Prop :=
 RUN prog R (fieldAt 124 x5 1) w8 fun v9 w10 =>
 RUN prog R (loadAt 41 v9) w10 fun v11 w12 =>
 RUN prog R (indexAt 41 v11 x7) w12 fun v13 w14 =>
 RUN prog R (loadAt 46 v13) w14 fun v15 w16 =>
 CALL prog R ref04_Text_symbol.id #[x0,v15] w16 fun v17 w18 =>
 b19_2 R C6 C18 x0 x6 x7 v17 w18

def b19 (R:EP) (C6:VP) (C18:VP) (x0 x3 x4 x5 x6 x7:Value) (w:World) (_r:Tok R:=tok R) (_C6:Tok C6:=tok C6) (_C18:Tok C18:=tok C18):Prop :=
 RUN prog R (fieldAt 124 x5 1) w fun v1 w2 =>
 RUN prog R (loadAt 41 v1) w2 fun v3 w4 =>
 RUN prog R (Builtin.len_ #[41] 3 #[v3]) w4 fun v5 w6 =>
 RUN prog R (bins .lss 3 (.tmp 60) (.tmp 63) x7 v5) w6 fun v7 w8 =>
 SPL v7
 (b19_3 R C6 C18 x0 x5 x6 x7 w8)
 (b13 R C6 x0 x3 x4 x5 x6 w8)
theorem b19_ok (R:EP) (C6:VP) (C18:VP):TI prog R p10 (q4 R C6 C18) fun z w=>b19 R C6 C18 (z 0) (z 3) (z 4) (z 5) (z 6) (z 7) w:=appT 1 (b20_ok R C6 C18)

def l18 (R:EP) (C6:VP) (x0 x3 x4 x5 x6 x7:Value) (w:World) (_r:Tok R:=tok R) (_C6:Tok C6:=tok C6):Prop :=
 ∃(J:VP) (μ:Value→World→Nat),J x7 w∧∀y7 w0,J y7 w0→b19 R C6 (fun z7 w1=>J z7 w1∧μ z7 w1<μ y7 w0) x0 x3 x4 x5 x6 y7 w0
abbrev q5 (R:EP) (C6:VP):XP:=QX (fun z w=>b13 R C6 (z 0) (z 3) (z 4) (z 5) (z 6) w) (r0 R) [(4,(fun z w=>b13 R C6 (z 0) (z 3) (z 4) (z 5) (z 6) w)),(2,(fun z w=>b9 R C6 (z 4) w)),(0,(fun z w=>b3 R (z 2) (z 3) w))]
theorem l18_ok (R:EP) (C6:VP):TI prog R (blkC p9) (q5 R C6) fun z w=>l18 R C6 (z 0) (z 3) (z 4) (z 5) (z 6) (z 7) w:=fun z w h=>by
 unfold l18 at h
 obtain ⟨J,μ,h0,hr⟩:=h
 refine loopT (fun z' w'=>J (z' 7) w') (fun z' w'=>μ (z' 7) w') h0 fun z' w' hA hI=>b19_ok R C6 (fun z7 w1=>J z7 w1∧μ z7 w1<μ (z' 7) w') z' w' ?_
 have h1:=hr (z' 7) w' hI
 rwa [←hA.on 0,←hA.on 3,←hA.on 4,←hA.on 5,←hA.on 6] at h1
theorem l18_intro (R:EP) (C6:VP) (x0 x3 x4 x5 x6 x7:Value) (w:World) (J:VP) (μ:Value→World→Nat) (h0:J x7 w)
   (hr:∀y7 w0,J y7 w0→∀C18:VP,(∀z7 w1,J z7 w1→μ z7 w1<μ y7 w0→C18 z7 w1)→b19 R C6 C18 x0 x3 x4 x5 x6 y7 w0):l18 R C6 x0 x3 x4 x5 x6 x7 w:=by
 unfold l18
 exact ⟨J,μ,h0,fun y7 w0 hJ=>hr y7 w0 hJ _ (fun z7 w1 h1 h2=>⟨h1,h2⟩)⟩
abbrev q6 (R:EP) (C6:VP):XP:=QX (fun z w=>b13 R C6 (z 0) (z 3) (z 4) (z 5) (z 6) w) (r0 R) [(2,(fun z w=>b9 R C6 (z 4) w)),(0,(fun z w=>b3 R (z 2) (z 3) w))]
theorem k17_ok (R:EP) (C6:VP):TI prog R p9 (q6 R C6) fun z w=>l18 R C6 (z 0) (z 3) (z 4) (z 5) (z 6) (z 7) w:=blockT 2 (l18_ok R C6)

def b16 (R:EP) (C6:VP) (x0 x3 x4 x5 x6:Value) (w:World) (_r:Tok R:=tok R) (_C6:Tok C6:=tok C6):Prop :=
 l18 R C6 x0 x3 x4 x5 x6 (Value.int .i64 0) w
theorem b16_ok (R:EP) (C6:VP):TI prog R (fstC p6) (q6 R C6) fun z w=>b16 R C6 (z 0) (z 3) (z 4) (z 5) (z 6) w:=appT 0 (k17_ok R C6)
theorem k12_ok (R:EP) (C6:VP):TI prog R p6 (q3 R C6) fun z w=>b16 R C6 (z 0) (z 3) (z 4) (z 5) (z 6) w:=seqT (b16_ok R C6) (b13_ok R C6)
def b11_1 (R:EP) (C6:VP) (x0 x3 x4 v10 v17:Value) (w18:World) (_r:Tok R:=tok R) (_C6:Tok C6:=tok C6):Prop :=
 RUN prog R (build 37 #[(0,v17)]) w18 fun v19 w20 =>
 RUN prog R (alloc 37 true (.tuple #[])) w20 fun v21 w22 =>
 RUNU prog R (storeAt 37 v21 v19) w22 fun w23 =>
 b16 R C6 x0 x3 x4 v10 v21 w23

def b11 (R:EP) (C6:VP) (x0 x3 x4:Value) (w:World) (_r:Tok R:=tok R) (_C6:Tok C6:=tok C6):Prop :=
 NILC x0 fun v1 =>
 RUN prog R (fieldAt 69 v1 4) w fun v2 w3 =>
 RUN prog R (loadAt 67 v2) w3 fun v4 w5 =>
 RUN prog R (indexAt 67 v4 x4) w5 fun v6 w7 =>
 RUN prog R (loadAt 124 v6) w7 fun v8 w9 =>
 RUN prog R (alloc 124 true (.tuple #[])) w9 fun v10 w11 =>
 RUNU prog R (storeAt 124 v10 v8) w11 fun w12 =>
 RUN prog R (fieldAt 124 v10 0) w12 fun v13 w14 =>
 RUN prog R (loadAt 9 v13) w14 fun v15 w16 =>
 CALL prog R ref04_Text_non.id #[x0,v15] w16 fun v17 w18 =>
 b11_1 R C6 x0 x3 x4 v10 v17 w18
theorem b11_ok (R:EP) (C6:VP):TI prog R p5 (q3 R C6) fun z w=>b11 R C6 (z 0) (z 3) (z 4) w:=appT 1 (k12_ok R C6)
abbrev q7 (R:EP) (C6:VP):XP:=QX (fun z w=>b9 R C6 (z 4) w) (r0 R) [(0,(fun z w=>b3 R (z 2) (z 3) w))]
theorem k10_ok (R:EP) (C6:VP):TI prog R (fstC p4) (q7 R C6) fun z w=>b11 R C6 (z 0) (z 3) (z 4) w:=blockT 1 (b11_ok R C6)
theorem k8_ok (R:EP) (C6:VP):TI prog R p4 (q2 R C6) fun z w=>b11 R C6 (z 0) (z 3) (z 4) w:=seqT (k10_ok R C6) (b9_ok R C6)

def b7 (R:EP) (C6:VP) (x0 x2 x3 x4:Value) (w:World) (_r:Tok R:=tok R) (_C6:Tok C6:=tok C6):Prop :=
 NILC x0 fun v1 =>
 RUN prog R (fieldAt 69 v1 4) w fun v2 w3 =>
 RUN prog R (loadAt 67 v2) w3 fun v4 w5 =>
 RUN prog R (Builtin.len_ #[67] 3 #[v4]) w5 fun v6 w7 =>
 RUN prog R (bins .lss 3 (.tmp 39) (.tmp 44) x4 v6) w7 fun v8 w9 =>
 SPL v8
 (b11 R C6 x0 x3 x4 w9)
 (b3 R x2 x3 w9)
theorem b7_ok (R:EP) (C6:VP):TI prog R p3 (q2 R C6) fun z w=>b7 R C6 (z 0) (z 2) (z 3) (z 4) w:=appT 0 (k8_ok R C6)

def l6 (R:EP) (x0 x2 x3 x4:Value) (w:World) (_r:Tok R:=tok R):Prop :=
 ∃(J:VP) (μ:Value→World→Nat),J x4 w∧∀y4 w0,J y4 w0→b7 R (fun z4 w1=>J z4 w1∧μ z4 w1<μ y4 w0) x0 x2 x3 y4 w0
abbrev q8 (R:EP):XP:=QX (fun z w=>b3 R (z 2) (z 3) w) (r0 R) [(0,(fun z w=>b3 R (z 2) (z 3) w))]
theorem l6_ok (R:EP):TI prog R (blkC p2) (q8 R) fun z w=>l6 R (z 0) (z 2) (z 3) (z 4) w:=fun z w h=>by
 unfold l6 at h
 obtain ⟨J,μ,h0,hr⟩:=h
 refine loopT (fun z' w'=>J (z' 4) w') (fun z' w'=>μ (z' 4) w') h0 fun z' w' hA hI=>b7_ok R (fun z4 w1=>J z4 w1∧μ z4 w1<μ (z' 4) w') z' w' ?_
 have h1:=hr (z' 4) w' hI
 rwa [←hA.on 0,←hA.on 2,←hA.on 3] at h1
theorem l6_intro (R:EP) (x0 x2 x3 x4:Value) (w:World) (J:VP) (μ:Value→World→Nat) (h0:J x4 w)
   (hr:∀y4 w0,J y4 w0→∀C6:VP,(∀z4 w1,J z4 w1→μ z4 w1<μ y4 w0→C6 z4 w1)→b7 R C6 x0 x2 x3 y4 w0):l6 R x0 x2 x3 x4 w:=by
 unfold l6
 exact ⟨J,μ,h0,fun y4 w0 hJ=>hr y4 w0 hJ _ (fun z4 w1 h1 h2=>⟨h1,h2⟩)⟩
abbrev q9 (R:EP):XP:=QX (fun z w=>b3 R (z 2) (z 3) w) (r0 R) []
theorem k5_ok (R:EP):TI prog R p2 (q9 R) fun z w=>l6 R (z 0) (z 2) (z 3) (z 4) w:=blockT 0 (l6_ok R)

def b4 (R:EP) (x0 x2 x3:Value) (w:World) (_r:Tok R:=tok R):Prop :=
 l6 R x0 x2 x3 (Value.int .i64 0) w
theorem b4_ok (R:EP):TI prog R (fstC p1) (q9 R) fun z w=>b4 R (z 0) (z 2) (z 3) w:=appT 0 (k5_ok R)
theorem k2_ok (R:EP):TI prog R p1 (q1 R) fun z w=>b4 R (z 0) (z 2) (z 3) w:=seqT (b4_ok R) (b3_ok R)
def b1_1 (R:EP) (x0 v1 v17 v32:Value) (w33:World) (_r:Tok R:=tok R):Prop :=
 RUN prog R (fieldAt 28 v17 3) w33 fun v34 w35 =>
 RUNU prog R (storeAt 3 v34 v32) w35 fun w36 =>
 b4 R x0 v1 v17 w36
def b1_2 (R:EP) (x0 v1 v17:Value) (w26:World) (_r:Tok R:=tok R):Prop :=
 NILC x0 fun v27 =>
 RUN prog R (fieldAt 69 v27 7) w26 fun v28 w29 =>
 RUN prog R (loadAt 9 v28) w29 fun v30 w31 =>
 CALL prog R ref04_Text_non.id #[x0,v30] w31 fun v32 w33 =>
 b1_1 R x0 v1 v17 v32 w33

def b1 (R:EP) (x0:Value) (w:World) (_r:Tok R:=tok R):Prop :=
 RUN prog R (alloc 28 true (.tuple #[])) w fun v1 w2 =>
 NILC x0 fun v3 =>
 PUR prog (fieldAt 69 v3 2) fun v4 =>
 LD prog (loadAt 23 v4) (World.drew w2) fun v5 =>
 NILC x0 fun v6 =>
 PUR prog (fieldAt 69 v6 6) fun v7 =>
 LD prog (loadAt 24 v7) (World.drew w2) fun v8 =>
 NILC x0 fun v9 =>
 PUR prog (fieldAt 69 v9 3) fun v10 =>
 LD prog (loadAt 25 v10) (World.drew w2) fun v11 =>
 NILC x0 fun v12 =>
 PUR prog (fieldAt 69 v12 2) fun v13 =>
 LD prog (loadAt 23 v13) (World.drew w2) fun v14 =>
 LD prog (Builtin.len_ #[23] 3 #[v14]) (World.drew w2) fun v15 =>
 PUR prog (build 28 #[(0,v5),(1,v8),(2,v11),(3,v15)]) fun v16 =>
 RUN prog R (alloc 28 true (.tuple #[])) (World.drew w2) fun v17 w18 =>
 Sem.run prog (Builtin.len_ #[23] 3 #[v14]) w18 = .ok v15 w18∧(Sem.run prog (loadAt 23 v13) w18 = .ok v14 w18∧(Sem.run prog (loadAt 25 v10) w18 = .ok v11 w18∧(Sem.run prog (loadAt 24 v7) w18 = .ok v8 w18∧(Sem.run prog (loadAt 23 v4) w18 = .ok v5 w18∧(RUNU prog R (storeAt 28 v17 v16) w18 fun w19 =>
 NILC x0 fun v20 =>
 RUN prog R (fieldAt 69 v20 7) w19 fun v21 w22 =>
 RUN prog R (loadAt 9 v21) w22 fun v23 w24 =>
 RUN prog R (bins .neq 9 (.tmp 30) (.const (Value.string ⟨#[]⟩)) v23 (Value.string ⟨#[]⟩)) w24 fun v25 w26 =>
 SPL v25
 (b1_2 R x0 v1 v17 w26)
 (b4 R x0 v1 v17 w26))))))
theorem b1_ok (R:EP):TI prog R code (q1 R) fun z w=>b1 R (z 0) w:=appT 2 (k2_ok R)
def run (R:EP) (a0:Value) (w:World):Prop:=b1 R a0 w
theorem calls (R:EP) (a0:Value) (w:World) (h:run R a0 w):Calls prog id #[a0] w R :=
 calls_of_c (f:=id) (fn:=f32) (c:=code) (by kernel_rfl) func32 (by kernel_rfl) (by kernel_rfl) (args:=[a0]) (Nat.le_of_ble_eq_true rfl) rfl (b1_ok R (envOf [a0]) w h)
theorem enters:Enters prog id:=fun args w=>call32 args w
theorem ct {a0:Value} {w:World} {S:VP} (h:∀R:EP,(∀v w,S v w→R (.returned v) w)→run R a0 w):Ct prog id #[a0] w S :=
 Ct.intro enters fun R hR=>calls R a0 w (h R hR)
attribute [irreducible] l18 l6
attribute [irreducible,go_sem] b3 b9 b15 b14_1 b14 b13_1 b13_2 b13 b20 b19_1 b19_2 b19_3 b19 b16 b11_1 b11 b7 b4 b1_1 b1_2 b1 run
end ref04_Text_grammar

/-! ### (*presage/presageref04.Text).word -/
namespace ref04_Text_word
noncomputable def code:Code:=bodyOf f54
noncomputable abbrev p1:Code:=dropC 2 code

def b3 (R:EP) (x0 x3:Value) (w:World) (_r:Tok R:=tok R):Prop :=
 RUN prog R (loadAt 46 x3) w fun v1 w2 =>
 CALL prog R ref04_Text_within.id #[x0,v1] w2 fun v3 w4 =>
 R (.returned v3) w4
abbrev r0 (R:EP) (z:Env) (w:World):Prop:=R (.returned (z 4)) w
abbrev q1 (R:EP):XP:=QX (r0 R) (r0 R) []
theorem b3_ok (R:EP):TI prog R (sndC p1) (q1 R) fun z w=>b3 R (z 0) (z 3) w:=ofT
noncomputable abbrev p2:Code:=dropC 1 (fstC p1)
noncomputable abbrev p3:Code:=dropC 1 (blkC p2)
def b8_1 (R:EP) (x0 x3:Value) (w6:World) (_r:Tok R:=tok R):Prop :=
 RUN prog R (loadAt 46 x3) w6 fun v7 w8 =>
 CALL prog R ref04_Text_header.id #[x0,v7] w8 fun v9 w10 =>
 R (.returned v9) w10
def b8_2 (R:EP) (x0 x3:Value) (w6:World) (_r:Tok R:=tok R):Prop :=
 RUN prog R (loadAt 46 x3) w6 fun v11 w12 =>
 CALL prog R ref04_Text_begin.id #[x0,v11] w12 fun v13 w14 =>
 R (.returned v13) w14

def b8 (R:EP) (x0 x3:Value) (w:World) (_r:Tok R:=tok R):Prop :=
 RUN prog R (fieldAt 46 x3 0) w fun v1 w2 =>
 RUN prog R (loadAt 3 v1) w2 fun v3 w4 =>
 RUN prog R (bins .eql 3 (.tmp 21) (.const (Value.int .i64 3)) v3 (Value.int .i64 3)) w4 fun v5 w6 =>
 SPL v5
 (b8_1 R x0 x3 w6)
 (b8_2 R x0 x3 w6)
abbrev q2 (R:EP):XP:=QX (fun z w=>b3 R (z 0) (z 3) w) (r0 R) [(0,(fun z w=>b3 R (z 0) (z 3) w))]
theorem b8_ok (R:EP):TI prog R (thnC p3) (q2 R) fun z w=>b8 R (z 0) (z 3) w:=ofT
noncomputable abbrev p4:Code:=dropC 1 (elsC p3)
noncomputable abbrev p5:Code:=dropC 1 (thnC p4)

def b13 (R:EP) (x0:Value) (w:World) (_r:Tok R:=tok R):Prop :=
 NILC x0 fun v1 =>
 RUN prog R (fieldAt 69 v1 0) w fun v2 w3 =>
 RUNU prog R (storeAt 3 v2 (Value.int .i64 0)) w3 fun w4 =>
 R (.returned (Value.bool true)) w4
theorem b13_ok (R:EP):TI prog R (sndC p5) (q2 R) fun z w=>b13 R (z 0) w:=ofT
noncomputable abbrev p6:Code:=dropC 1 (fstC p5)

def b15 (R:EP) (x0 x51:Value) (w:World) (_r:Tok R:=tok R):Prop :=
 SPL x51
 (R (.returned (Value.bool false)) w)
 (b13 R x0 w)
abbrev q3 (R:EP):XP:=QX (fun z w=>b13 R (z 0) w) (r0 R) [(0,(fun z w=>b3 R (z 0) (z 3) w))]
theorem b15_ok (R:EP):TI prog R p6 (q3 R) fun z w=>b15 R (z 0) (z 51) w:=ofT
def b14_1 (R:EP) (x0 x3:Value) (w13:World) (_r:Tok R:=tok R):Prop :=
 RUN prog R (fieldAt 46 x3 1) w13 fun v14 w15 =>
 RUN prog R (loadAt 9 v14) w15 fun v16 w17 =>
 RUN prog R (bins .neq 9 (.tmp 49) (.const (Value.string ⟨#[59]⟩)) v16 (Value.string ⟨#[59]⟩)) w17 fun v18 w19 =>
 b15 R x0 v18 w19
def b14_2 (R:EP) (x0 x3:Value) (w7:World) (_r:Tok R:=tok R):Prop :=
 RUN prog R (fieldAt 46 x3 0) w7 fun v8 w9 =>
 RUN prog R (loadAt 3 v8) w9 fun v10 w11 =>
 RUN prog R (bins .neq 3 (.tmp 44) (.const (Value.int .i64 4)) v10 (Value.int .i64 4)) w11 fun v12 w13 =>
 SPL v12
 (b15 R x0 (Value.bool true) w13)
 (b14_1 R x0 x3 w13)

def b14 (R:EP) (x0 x3:Value) (w:World) (_r:Tok R:=tok R):Prop :=
 NILC x0 fun v1 =>
 RUN prog R (fieldAt 69 v1 0) w fun v2 w3 =>
 RUN prog R (loadAt 3 v2) w3 fun v4 w5 =>
 RUN prog R (bins .eql 3 (.tmp 40) (.const (Value.int .i64 1)) v4 (Value.int .i64 1)) w5 fun v6 w7 =>
 SPL v6
 (b15 R x0 (Value.bool true) w7)
 (b14_2 R x0 x3 w7)
theorem b14_ok (R:EP):TI prog R (fstC p5) (q3 R) fun z w=>b14 R (z 0) (z 3) w:=appT 0 (b15_ok R)
theorem k12_ok (R:EP):TI prog R p5 (q2 R) fun z w=>b14 R (z 0) (z 3) w:=seqT (b14_ok R) (b13_ok R)
def b11_1 (R:EP) (x0 x3:Value) (w:World) (_r:Tok R:=tok R):Prop :=
 RUN prog R (fieldAt 46 x3 1) w fun v1 w2 =>
 RUN prog R (loadAt 9 v1) w2 fun v3 w4 =>
 CALL prog R ref04_Text_listed.id #[x0,v3] w4 fun v5 w6 =>
 R (.returned v5) w6

def b11 (R:EP) (x0 x3 x5:Value) (w:World) (_r:Tok R:=tok R):Prop :=
 SPL x5
 (b11_1 R x0 x3 w)
 (b14 R x0 x3 w)
theorem b11_ok (R:EP):TI prog R (thnC p4) (q2 R) fun z w=>b11 R (z 0) (z 3) (z 5) w:=appT 0 (k12_ok R)
def b16_1 (R:EP) (x0 x3:Value) (w2:World) (_r:Tok R:=tok R):Prop :=
 RUN prog R (fieldAt 46 x3 1) w2 fun v3 w4 =>
 RUN prog R (loadAt 9 v3) w4 fun v5 w6 =>
 NILC x0 fun v7 =>
 RUN prog R (fieldAt 69 v7 7) w6 fun v8 w9 =>
 RUNU prog R (storeAt 9 v8 v5) w9 fun w10 =>
 NILC x0 fun v11 =>
 RUN prog R (fieldAt 69 v11 0) w10 fun v12 w13 =>
 RUNU prog R (storeAt 3 v12 (Value.int .i64 4)) w13 fun w14 =>
 RUN prog R (fieldAt 46 x3 0) w14 fun v15 w16 =>
 RUN prog R (loadAt 3 v15) w16 fun v17 w18 =>
 RUN prog R (bins .eql 3 (.tmp 66) (.const (Value.int .i64 1)) v17 (Value.int .i64 1)) w18 fun v19 w20 =>
 R (.returned v19) w20
def b16_2 (R:EP) (x3:Value) (w32:World) (_r:Tok R:=tok R):Prop :=
 RUN prog R (fieldAt 46 x3 1) w32 fun v33 w34 =>
 RUN prog R (loadAt 9 v33) w34 fun v35 w36 =>
 RUN prog R (bins .eql 9 (.tmp 78) (.const (Value.string ⟨#[59]⟩)) v35 (Value.string ⟨#[59]⟩)) w36 fun v37 w38 =>
 R (.returned v37) w38
def b16_3 (R:EP) (x0 x3:Value) (w22:World) (_r:Tok R:=tok R):Prop :=
 NILC x0 fun v23 =>
 RUN prog R (fieldAt 69 v23 0) w22 fun v24 w25 =>
 RUNU prog R (storeAt 3 v24 (Value.int .i64 0)) w25 fun w26 =>
 RUN prog R (fieldAt 46 x3 0) w26 fun v27 w28 =>
 RUN prog R (loadAt 3 v27) w28 fun v29 w30 =>
 RUN prog R (bins .eql 3 (.tmp 74) (.const (Value.int .i64 4)) v29 (Value.int .i64 4)) w30 fun v31 w32 =>
 SPL v31
 (b16_2 R x3 w32)
 (R (.returned (Value.bool false)) w32)
def b16_4 (R:EP) (x3:Value) (w48:World) (_r:Tok R:=tok R):Prop :=
 RUN prog R (fieldAt 46 x3 1) w48 fun v49 w50 =>
 RUN prog R (loadAt 9 v49) w50 fun v51 w52 =>
 RUN prog R (bins .eql 9 (.tmp 90) (.const (Value.string ⟨#[58]⟩)) v51 (Value.string ⟨#[58]⟩)) w52 fun v53 w54 =>
 R (.returned v53) w54
def b16_5 (R:EP) (x3:Value) (w42:World) (_r:Tok R:=tok R):Prop :=
 RUN prog R (fieldAt 46 x3 0) w42 fun v43 w44 =>
 RUN prog R (loadAt 3 v43) w44 fun v45 w46 =>
 RUN prog R (bins .eql 3 (.tmp 86) (.const (Value.int .i64 4)) v45 (Value.int .i64 4)) w46 fun v47 w48 =>
 SPL v47
 (b16_4 R x3 w48)
 (R (.returned (Value.bool false)) w48)
def b16_6 (R:EP) (x0 x3 x5:Value) (w56:World) (_r:Tok R:=tok R):Prop :=
 NILC x0 fun v57 =>
 PUR prog (fieldAt 69 v57 4) fun v58 =>
 LD prog (loadAt 67 v58) (World.drew w56) fun v59 =>
 NILC x0 fun v60 =>
 PUR prog (fieldAt 69 v60 4) fun v61 =>
 LD prog (loadAt 67 v61) (World.drew w56) fun v62 =>
 LD prog (Builtin.len_ #[67] 3 #[v62]) (World.drew w56) fun v63 =>
 PUR prog (bins .sub 3 (.tmp 103) (.const (Value.int .i64 1)) v63 (Value.int .i64 1)) fun v64 =>
 PUR prog (fieldAt 46 x3 1) fun v65 =>
 LD prog (loadAt 9 v65) (World.drew w56) fun v66 =>
 PUR prog (indexAt 67 v59 v64) fun v67 =>
 PUR prog (fieldAt 124 v67 3) fun v68 =>
 RUNU prog R (storeAt 9 v68 v66) (World.drew w56) fun w69 =>
 NILC x0 fun v70 =>
 RUN prog R (fieldAt 69 v70 0) w69 fun v71 w72 =>
 RUNU prog R (storeAt 3 v71 (Value.int .i64 8)) w72 fun w73 =>
 R (.returned x5) w73
def b16_7 (R:EP) (x0 x3:Value) (w75:World) (_r:Tok R:=tok R):Prop :=
 RUN prog R (loadAt 46 x3) w75 fun v76 w77 =>
 CALL prog R ref04_Text_begin.id #[x0,v76] w77 fun v78 w79 =>
 R (.returned v78) w79
def b16_8 (R:EP) (x0 x3 x5 x17:Value) (w40:World) (_r:Tok R:=tok R):Prop :=
 RUN prog R (bins .eql 3 (.tmp 17) (.const (Value.int .i64 7)) x17 (Value.int .i64 7)) w40 fun v55 w56 =>
 SPL v55
 (b16_6 R x0 x3 x5 w56)
 (RUN prog R (bins .eql 3 (.tmp 17) (.const (Value.int .i64 9)) x17 (Value.int .i64 9)) w56 fun v74 w75 =>
 SPL v74
 (b16_7 R x0 x3 w75)
 (b3 R x0 x3 w75))
def b16_9 (R:EP) (x0 x3 x5 x17:Value) (w22:World) (_r:Tok R:=tok R):Prop :=
 RUN prog R (bins .eql 3 (.tmp 17) (.const (Value.int .i64 5)) x17 (Value.int .i64 5)) w22 fun v39 w40 =>
 SPL v39
 (CALL prog R ref04_Text_another.id #[x0] w40 fun v41 w42 =>
 b16_5 R x3 w42)
 (b16_8 R x0 x3 x5 x17 w40)

def b16 (R:EP) (x0 x3 x5 x17:Value) (w:World) (_r:Tok R:=tok R):Prop :=
 RUN prog R (bins .eql 3 (.tmp 17) (.const (Value.int .i64 3)) x17 (Value.int .i64 3)) w fun v1 w2 =>
 SPL v1
 (b16_1 R x0 x3 w2)
 (RUN prog R (bins .eql 3 (.tmp 17) (.const (Value.int .i64 4)) x17 (Value.int .i64 4)) w2 fun v21 w22 =>
 SPL v21
 (b16_3 R x0 x3 w22)
 (b16_9 R x0 x3 x5 x17 w22))
theorem b16_ok (R:EP):TI prog R (elsC p4) (q2 R) fun z w=>b16 R (z 0) (z 3) (z 5) (z 17) w:=ofT

def b10 (R:EP) (x0 x3 x5 x17 x29:Value) (w:World) (_r:Tok R:=tok R):Prop :=
 SPL x29 (b11 R x0 x3 x5 w) (b16 R x0 x3 x5 x17 w)
theorem b10_ok (R:EP):TI prog R p4 (q2 R) fun z w=>b10 R (z 0) (z 3) (z 5) (z 17) (z 29) w:=fun z w h=>by
 have e:Code.cond (.tmp 29) (thnC p4) (elsC p4)=p4:=by kernel_rfl
 rw [←e]
 exact condQ' h (fun h=>b11_ok R z w h) (fun h=>b16_ok R z w h)

def b9 (R:EP) (x0 x3 x5 x17:Value) (w:World) (_r:Tok R:=tok R):Prop :=
 RUN prog R (bins .eql 3 (.tmp 17) (.const (Value.int .i64 1)) x17 (Value.int .i64 1)) w fun v1 w2 =>
 SPL v1
 (b10 R x0 x3 x5 x17 v1 w2)
 (RUN prog R (bins .eql 3 (.tmp 17) (.const (Value.int .i64 2)) x17 (Value.int .i64 2)) w2 fun v3 w4 =>
 b10 R x0 x3 x5 x17 v3 w4)
theorem b9_ok (R:EP):TI prog R (elsC p3) (q2 R) fun z w=>b9 R (z 0) (z 3) (z 5) (z 17) w:=appT 0 (b10_ok R)

def b7 (R:EP) (x0 x3 x5 x17 x18:Value) (w:World) (_r:Tok R:=tok R):Prop :=
 SPL x18 (b8 R x0 x3 w) (b9 R x0 x3 x5 x17 w)
theorem b7_ok (R:EP):TI prog R p3 (q2 R) fun z w=>b7 R (z 0) (z 3) (z 5) (z 17) (z 18) w:=fun z w h=>by
 have e:Code.cond (.tmp 18) (thnC p3) (elsC p3)=p3:=by kernel_rfl
 rw [←e]
 exact condQ' h (fun h=>b8_ok R z w h) (fun h=>b9_ok R z w h)

def b6 (R:EP) (x0 x3 x5 x17:Value) (w:World) (_r:Tok R:=tok R):Prop :=
 RUN prog R (bins .eql 3 (.tmp 17) (.const (Value.int .i64 0)) x17 (Value.int .i64 0)) w fun v1 w2 =>
 b7 R x0 x3 x5 x17 v1 w2
theorem b6_ok (R:EP):TI prog R (blkC p2) (q2 R) fun z w=>b6 R (z 0) (z 3) (z 5) (z 17) w:=appT 0 (b7_ok R)
abbrev q4 (R:EP):XP:=QX (fun z w=>b3 R (z 0) (z 3) w) (r0 R) []
theorem k5_ok (R:EP):TI prog R p2 (q4 R) fun z w=>b6 R (z 0) (z 3) (z 5) (z 17) w:=blockT 0 (b6_ok R)

def b4 (R:EP) (x0 x3 x5:Value) (w:World) (_r:Tok R:=tok R):Prop :=
 NILC x0 fun v1 =>
 RUN prog R (fieldAt 69 v1 0) w fun v2 w3 =>
 RUN prog R (loadAt 3 v2) w3 fun v4 w5 =>
 b6 R x0 x3 x5 v4 w5
theorem b4_ok (R:EP):TI prog R (fstC p1) (q4 R) fun z w=>b4 R (z 0) (z 3) (z 5) w:=appT 0 (k5_ok R)
theorem k2_ok (R:EP):TI prog R p1 (q1 R) fun z w=>b4 R (z 0) (z 3) (z 5) w:=seqT (b4_ok R) (b3_ok R)
def b1_1 (R:EP) (x0 v1:Value) (w8:World) (_r:Tok R:=tok R):Prop :=
 RUN prog R (fieldAt 46 v1 0) w8 fun v9 w10 =>
 RUN prog R (loadAt 3 v9) w10 fun v11 w12 =>
 RUN prog R (bins .eql 3 (.tmp 11) (.const (Value.int .i64 2)) v11 (Value.int .i64 2)) w12 fun v13 w14 =>
 b4 R x0 v1 v13 w14

def b1 (R:EP) (x0 x1:Value) (w:World) (_r:Tok R:=tok R):Prop :=
 RUN prog R (box 46 x1) w fun v1 w2 =>
 RUN prog R (fieldAt 46 v1 0) w2 fun v3 w4 =>
 RUN prog R (loadAt 3 v3) w4 fun v5 w6 =>
 RUN prog R (bins .eql 3 (.tmp 7) (.const (Value.int .i64 1)) v5 (Value.int .i64 1)) w6 fun v7 w8 =>
 SPL v7
 (b4 R x0 v1 (Value.bool true) w8)
 (b1_1 R x0 v1 w8)
theorem b1_ok (R:EP):TI prog R code (q1 R) fun z w=>b1 R (z 0) (z 1) w:=appT 1 (k2_ok R)
def run (R:EP) (a0 a1:Value) (w:World):Prop:=b1 R a0 a1 w
theorem calls (R:EP) (a0 a1:Value) (w:World) (h:run R a0 a1 w):Calls prog id #[a0,a1] w R:=cls_t func54 [a0,a1] (b1_ok R _ w h)
theorem enters:Enters prog id:=fun args w=>call54 args w
theorem ct {a0 a1:Value} {w:World} {S:VP} (h:∀R:EP,(∀v w,S v w→R (.returned v) w)→run R a0 a1 w):Ct prog id #[a0,a1] w S :=
 Ct.intro enters fun R hR=>calls R a0 a1 w (h R hR)
attribute [irreducible,go_sem] b3 b8_1 b8_2 b8 b13 b15 b14_1 b14_2 b14 b11_1 b11 b16_1 b16_2 b16_3 b16_4 b16_5 b16_6 b16_7 b16_8 b16_9 b16 b10 b9 b7 b6 b4 b1_1 b1 run
end ref04_Text_word

/-! ### (*presage/presageref04.Text).isNon -/
namespace ref04_Text_isNon
noncomputable def code:Code:=bodyOf f56
def b1_1 (R:EP) (v1:Value) (w9:World) (_r:Tok R:=tok R):Prop :=
 RUN prog R (fieldAt 46 v1 0) w9 fun v10 w11 =>
 RUN prog R (loadAt 3 v10) w11 fun v12 w13 =>
 RUN prog R (bins .eql 3 (.tmp 16) (.const (Value.int .i64 1)) v12 (Value.int .i64 1)) w13 fun v14 w15 =>
 R (.returned v14) w15
def b1 (R:EP) (x0 x1:Value) (w:World) (_r:Tok R:=tok R):Prop :=
 RUN prog R (box 46 x1) w fun v1 w2 =>
 NILC x0 fun v3 =>
 PUR prog (fieldAt 69 v3 6) fun v4 =>
 LD prog (loadAt 24 v4) (World.drew w2) fun v5 =>
 PUR prog (fieldAt 46 v1 1) fun v6 =>
 LD prog (loadAt 9 v6) (World.drew w2) fun v7 =>
 CALL prog R ref04_has.id #[v5,v7] (World.drew w2) fun v8 w9 =>
 SPL v8
 (b1_1 R v1 w9)
 (R (.returned (Value.bool false)) w9)
abbrev r0 (R:EP) (z:Env) (w:World):Prop:=R (.returned (z 4)) w
abbrev q1 (R:EP):XP:=QX (r0 R) (r0 R) []
theorem b1_ok (R:EP):TI prog R code (q1 R) fun z w=>b1 R (z 0) (z 1) w:=ofT
def run (R:EP) (a0 a1:Value) (w:World):Prop:=b1 R a0 a1 w
theorem calls (R:EP) (a0 a1:Value) (w:World) (h:run R a0 a1 w):Calls prog id #[a0,a1] w R:=cls_t func56 [a0,a1] (b1_ok R _ w h)
theorem enters:Enters prog id:=fun args w=>call56 args w
theorem ct {a0 a1:Value} {w:World} {S:VP} (h:∀R:EP,(∀v w,S v w→R (.returned v) w)→run R a0 a1 w):Ct prog id #[a0,a1] w S :=
 Ct.intro enters fun R hR=>calls R a0 a1 w (h R hR)
attribute [irreducible,go_sem] b1_1 b1 run
end ref04_Text_isNon

/-! ### (*presage/presageref04.Text).non -/
namespace ref04_Text_non
noncomputable def code:Code:=bodyOf f58
noncomputable abbrev p1:Code:=dropC 1 code

def b3 (R:EP) (w:World) (_r:Tok R:=tok R):Prop :=
 R (.returned (Value.int .i64 (-1))) w
abbrev r0 (R:EP) (z:Env) (w:World):Prop:=R (.returned (z 4)) w
abbrev q1 (R:EP):XP:=QX (r0 R) (r0 R) []
theorem b3_ok (R:EP):TI prog R (sndC p1) (q1 R) fun z w=>b3 R w:=ofT
noncomputable abbrev p2:Code:=dropC 1 (fstC p1)
noncomputable abbrev p3:Code:=loopC (blkC p2)
def b7_1 (R:EP) (x0 x5:Value) (w20:World) (_r:Tok R:=tok R):Prop :=
 NILC x0 fun v21 =>
 RUN prog R (fieldAt 69 v21 2) w20 fun v22 w23 =>
 RUN prog R (loadAt 23 v22) w23 fun v24 w25 =>
 RUN prog R (Builtin.len_ #[23] 3 #[v24]) w25 fun v26 w27 =>
 RUN prog R (bins .add 3 (.tmp 28) (.tmp 29) v26 x5) w27 fun v28 w29 =>
 R (.returned v28) w29
def b7_2 (R:EP) (C6:VP) (x0 x1 x5:Value) (w9:World) (_r:Tok R:=tok R) (_C6:Tok C6:=tok C6):Prop :=
 NILC x0 fun v10 =>
 RUN prog R (fieldAt 69 v10 6) w9 fun v11 w12 =>
 RUN prog R (loadAt 24 v11) w12 fun v13 w14 =>
 RUN prog R (indexAt 24 v13 x5) w14 fun v15 w16 =>
 RUN prog R (loadAt 9 v15) w16 fun v17 w18 =>
 RUN prog R (bins .eql 9 (.tmp 21) (.tmp 22) v17 x1) w18 fun v19 w20 =>
 SPL v19
 (b7_1 R x0 x5 w20)
 (RUN prog R (bins .add 3 (.tmp 13) (.const (Value.int .i64 1)) x5 (Value.int .i64 1)) w20 fun v30 w31 =>
 C6 v30 w31)
def b7 (R:EP) (C6:VP) (x0 x1 x5:Value) (w:World) (_r:Tok R:=tok R) (_C6:Tok C6:=tok C6):Prop :=
 NILC x0 fun v1 =>
 RUN prog R (fieldAt 69 v1 6) w fun v2 w3 =>
 RUN prog R (loadAt 24 v2) w3 fun v4 w5 =>
 RUN prog R (Builtin.len_ #[24] 3 #[v4]) w5 fun v6 w7 =>
 RUN prog R (bins .lss 3 (.tmp 6) (.tmp 11) x5 v6) w7 fun v8 w9 =>
 SPL v8
 (b7_2 R C6 x0 x1 x5 w9)
 (b3 R w9)
abbrev q2 (R:EP) (C6:VP):XP:=QX (fun z w=>C6 (z 5) w) (r0 R) [(0,(fun z w=>b3 R  w))]
theorem b7_ok (R:EP) (C6:VP):TI prog R p3 (q2 R C6) fun z w=>b7 R C6 (z 0) (z 1) (z 5) w:=ofT
def l6 (R:EP) (x0 x1 x5:Value) (w:World) (_r:Tok R:=tok R):Prop :=
 ∃(J:VP) (μ:Value→World→Nat),J x5 w∧∀y5 w0,J y5 w0→b7 R (fun z5 w1=>J z5 w1∧μ z5 w1<μ y5 w0) x0 x1 y5 w0
abbrev q3 (R:EP):XP:=QX (fun z w=>b3 R  w) (r0 R) [(0,(fun z w=>b3 R  w))]
theorem l6_ok (R:EP):TI prog R (blkC p2) (q3 R) fun z w=>l6 R (z 0) (z 1) (z 5) w:=fun z w h=>by
 unfold l6 at h
 obtain ⟨J,μ,h0,hr⟩:=h
 refine loopT (fun z' w'=>J (z' 5) w') (fun z' w'=>μ (z' 5) w') h0 fun z' w' hA hI=>b7_ok R (fun z5 w1=>J z5 w1∧μ z5 w1<μ (z' 5) w') z' w' ?_
 have h1:=hr (z' 5) w' hI
 rwa [←hA.on 0,←hA.on 1] at h1
theorem l6_intro (R:EP) (x0 x1 x5:Value) (w:World) (J:VP) (μ:Value→World→Nat) (h0:J x5 w)
   (hr:∀y5 w0,J y5 w0→∀C6:VP,(∀z5 w1,J z5 w1→μ z5 w1<μ y5 w0→C6 z5 w1)→b7 R C6 x0 x1 y5 w0):l6 R x0 x1 x5 w:=by
 unfold l6
 exact ⟨J,μ,h0,fun y5 w0 hJ=>hr y5 w0 hJ _ (fun z5 w1 h1 h2=>⟨h1,h2⟩)⟩
abbrev q4 (R:EP):XP:=QX (fun z w=>b3 R  w) (r0 R) []
theorem k5_ok (R:EP):TI prog R p2 (q4 R) fun z w=>l6 R (z 0) (z 1) (z 5) w:=blockT 0 (l6_ok R)
def b4 (R:EP) (x0 x1:Value) (w:World) (_r:Tok R:=tok R):Prop :=
 l6 R x0 x1 (Value.int .i64 0) w
theorem b4_ok (R:EP):TI prog R (fstC p1) (q4 R) fun z w=>b4 R (z 0) (z 1) w:=appT 0 (k5_ok R)
theorem k2_ok (R:EP):TI prog R p1 (q1 R) fun z w=>b4 R (z 0) (z 1) w:=seqT (b4_ok R) (b3_ok R)
def b1 (R:EP) (x0 x1:Value) (w:World) (_r:Tok R:=tok R):Prop :=
 b4 R x0 x1 w
theorem b1_ok (R:EP):TI prog R code (q1 R) fun z w=>b1 R (z 0) (z 1) w:=appT 0 (k2_ok R)
def run (R:EP) (a0 a1:Value) (w:World):Prop:=b1 R a0 a1 w
theorem calls (R:EP) (a0 a1:Value) (w:World) (h:run R a0 a1 w):Calls prog id #[a0,a1] w R:=cls_t func58 [a0,a1] (b1_ok R _ w h)
theorem enters:Enters prog id:=fun args w=>call58 args w
theorem ct {a0 a1:Value} {w:World} {S:VP} (h:∀R:EP,(∀v w,S v w→R (.returned v) w)→run R a0 a1 w):Ct prog id #[a0,a1] w S :=
 Ct.intro enters fun R hR=>calls R a0 a1 w (h R hR)
attribute [irreducible] l6
attribute [irreducible,go_sem] b3 b7_1 b7_2 b7 b4 b1 run
end ref04_Text_non

/-! ### (*presage/presageref04.Text).symbol -/
namespace ref04_Text_symbol
noncomputable def code:Code:=bodyOf f59
def b1_1 (R:EP) (x0 v1:Value) (w8:World) (_r:Tok R:=tok R):Prop :=
 RUN prog R (fieldAt 46 v1 1) w8 fun v9 w10 =>
 RUN prog R (loadAt 9 v9) w10 fun v11 w12 =>
 CALL prog R ref04_Text_term.id #[x0,v11] w12 fun v13 w14 =>
 R (.returned v13) w14
def b1_2 (R:EP) (x0 v1:Value) (w8:World) (_r:Tok R:=tok R):Prop :=
 RUN prog R (fieldAt 46 v1 1) w8 fun v15 w16 =>
 RUN prog R (loadAt 9 v15) w16 fun v17 w18 =>
 CALL prog R ref04_Text_non.id #[x0,v17] w18 fun v19 w20 =>
 R (.returned v19) w20
def b1 (R:EP) (x0 x1:Value) (w:World) (_r:Tok R:=tok R):Prop :=
 RUN prog R (box 46 x1) w fun v1 w2 =>
 RUN prog R (loadAt 46 v1) w2 fun v3 w4 =>
 CALL prog R ref04_Text_isNon.id #[x0,v3] w4 fun v5 w6 =>
 RUN prog R (Op.unary .not v5) w6 fun v7 w8 =>
 SPL v7
 (b1_1 R x0 v1 w8)
 (b1_2 R x0 v1 w8)
abbrev r0 (R:EP) (z:Env) (w:World):Prop:=R (.returned (z 4)) w
abbrev q1 (R:EP):XP:=QX (r0 R) (r0 R) []
theorem b1_ok (R:EP):TI prog R code (q1 R) fun z w=>b1 R (z 0) (z 1) w:=ofT
def run (R:EP) (a0 a1:Value) (w:World):Prop:=b1 R a0 a1 w
theorem calls (R:EP) (a0 a1:Value) (w:World) (h:run R a0 a1 w):Calls prog id #[a0,a1] w R:=cls_t func59 [a0,a1] (b1_ok R _ w h)
theorem enters:Enters prog id:=fun args w=>call59 args w
theorem ct {a0 a1:Value} {w:World} {S:VP} (h:∀R:EP,(∀v w,S v w→R (.returned v) w)→run R a0 a1 w):Ct prog id #[a0,a1] w S :=
 Ct.intro enters fun R hR=>calls R a0 a1 w (h R hR)
attribute [irreducible,go_sem] b1_1 b1_2 b1 run
end ref04_Text_symbol

/-! ### (*presage/presageref04.Text).header -/
namespace ref04_Text_header
noncomputable def code:Code:=bodyOf f84
noncomputable abbrev p1:Code:=dropC 2 code
noncomputable abbrev p2:Code:=dropC 1 p1
def b3 (R:EP) (x0:Value) (w:World) (_r:Tok R:=tok R):Prop :=
 NILC x0 fun v1 =>
 RUN prog R (fieldAt 69 v1 0) w fun v2 w3 =>
 RUNU prog R (storeAt 3 v2 (Value.int .i64 1)) w3 fun w4 =>
 R (.returned (Value.bool true)) w4
abbrev r0 (R:EP) (z:Env) (w:World):Prop:=R (.returned (z 4)) w
abbrev q1 (R:EP):XP:=QX (r0 R) (r0 R) []
theorem b3_ok (R:EP):TI prog R p2 (q1 R) fun z w=>b3 R (z 0) w:=ofT
def b2_1 (R:EP) (x0:Value) (w7:World) (_r:Tok R:=tok R):Prop :=
 NILC x0 fun v8 =>
 PUR prog (fieldAt 69 v8 3) fun v9 =>
 LD prog (loadAt 25 v9) (World.drew w7) fun v10 =>
 NILC x0 fun v11 =>
 PUR prog (fieldAt 69 v11 1) fun v12 =>
 LD prog (loadAt 3 v12) (World.drew w7) fun v13 =>
 RUN prog R (buildSlice 25 1 #[(0,v13)]) (World.drew w7) fun v14 w15 =>
 Sem.run prog (loadAt 25 v9) w15 = .ok v10 w15∧(RUN prog R (Builtin.append_ #[25,25] 25 #[v10,v14]) w15 fun v16 w17 =>
 NILC x0 fun v18 =>
 PUR prog (fieldAt 69 v18 3) fun v19 =>
 RUNU prog R (storeAt 25 v19 v16) w17 fun w20 =>
 b3 R x0 w20)
def b2 (R:EP) (x0:Value) (w:World) (_r:Tok R:=tok R):Prop :=
 NILC x0 fun v1 =>
 RUN prog R (fieldAt 69 v1 1) w fun v2 w3 =>
 RUN prog R (loadAt 3 v2) w3 fun v4 w5 =>
 RUN prog R (bins .gtr 3 (.tmp 40) (.const (Value.int .i64 0)) v4 (Value.int .i64 0)) w5 fun v6 w7 =>
 SPL v6
 (b2_1 R x0 w7)
 (b3 R x0 w7)
theorem b2_ok (R:EP):TI prog R p1 (q1 R) fun z w=>b2 R (z 0) w:=appT 0 (b3_ok R)
def b1_1 (R:EP) (x0:Value) (w8:World) (_r:Tok R:=tok R):Prop :=
 NILC x0 fun v9 =>
 RUN prog R (fieldAt 69 v9 1) w8 fun v10 w11 =>
 RUNU prog R (storeAt 3 v10 (Value.int .i64 0)) w11 fun w12 =>
 b2 R x0 w12
def b1_2 (R:EP) (x0:Value) (w14:World) (_r:Tok R:=tok R):Prop :=
 NILC x0 fun v15 =>
 RUN prog R (fieldAt 69 v15 1) w14 fun v16 w17 =>
 RUNU prog R (storeAt 3 v16 (Value.int .i64 1)) w17 fun w18 =>
 b2 R x0 w18
def b1_3 (R:EP) (x0:Value) (w20:World) (_r:Tok R:=tok R):Prop :=
 NILC x0 fun v21 =>
 RUN prog R (fieldAt 69 v21 1) w20 fun v22 w23 =>
 RUNU prog R (storeAt 3 v22 (Value.int .i64 2)) w23 fun w24 =>
 b2 R x0 w24
def b1_4 (R:EP) (x0:Value) (w26:World) (_r:Tok R:=tok R):Prop :=
 NILC x0 fun v27 =>
 RUN prog R (fieldAt 69 v27 1) w26 fun v28 w29 =>
 RUNU prog R (storeAt 3 v28 (Value.int .i64 3)) w29 fun w30 =>
 b2 R x0 w30
def b1_5 (R:EP) (x0:Value) (w39:World) (_r:Tok R:=tok R):Prop :=
 NILC x0 fun v40 =>
 RUN prog R (fieldAt 69 v40 0) w39 fun v41 w42 =>
 RUNU prog R (storeAt 3 v41 (Value.int .i64 3)) w42 fun w43 =>
 R (.returned (Value.bool true)) w43
def b1_6 (R:EP) (x0:Value) (w32:World) (_r:Tok R:=tok R):Prop :=
 NILC x0 fun v33 =>
 RUN prog R (fieldAt 69 v33 7) w32 fun v34 w35 =>
 RUN prog R (loadAt 9 v34) w35 fun v36 w37 =>
 RUN prog R (bins .neq 9 (.tmp 32) (.const (Value.string ⟨#[]⟩)) v36 (Value.string ⟨#[]⟩)) w37 fun v38 w39 =>
 SPL v38
 (R (.returned (Value.bool false)) w39)
 (b1_5 R x0 w39)
def b1_7 (R:EP) (x0 v5:Value) (w20:World) (_r:Tok R:=tok R):Prop :=
 RUN prog R (bins .eql 9 (.tmp 6) (.const (Value.string ⟨#[37,110,111,110,97,115,115,111,99]⟩)) v5 (Value.string ⟨#[37,110,111,110,97,115,115,111,99]⟩)) w20 fun v25 w26 =>
 SPL v25
 (b1_4 R x0 w26)
 (RUN prog R (bins .eql 9 (.tmp 6) (.const (Value.string ⟨#[37,115,116,97,114,116]⟩)) v5 (Value.string ⟨#[37,115,116,97,114,116]⟩)) w26 fun v31 w32 =>
 SPL v31
 (b1_6 R x0 w32)
 (R (.returned (Value.bool false)) w32))
def b1_8 (R:EP) (x0 v5:Value) (w8:World) (_r:Tok R:=tok R):Prop :=
 RUN prog R (bins .eql 9 (.tmp 6) (.const (Value.string ⟨#[37,108,101,102,116]⟩)) v5 (Value.string ⟨#[37,108,101,102,116]⟩)) w8 fun v13 w14 =>
 SPL v13
 (b1_2 R x0 w14)
 (RUN prog R (bins .eql 9 (.tmp 6) (.const (Value.string ⟨#[37,114,105,103,104,116]⟩)) v5 (Value.string ⟨#[37,114,105,103,104,116]⟩)) w14 fun v19 w20 =>
 SPL v19
 (b1_3 R x0 w20)
 (b1_7 R x0 v5 w20))
def b1 (R:EP) (x0 x1:Value) (w:World) (_r:Tok R:=tok R):Prop :=
 RUN prog R (box 46 x1) w fun v1 w2 =>
 RUN prog R (fieldAt 46 v1 1) w2 fun v3 w4 =>
 RUN prog R (loadAt 9 v3) w4 fun v5 w6 =>
 RUN prog R (bins .eql 9 (.tmp 6) (.const (Value.string ⟨#[37,116,111,107,101,110]⟩)) v5 (Value.string ⟨#[37,116,111,107,101,110]⟩)) w6 fun v7 w8 =>
 SPL v7
 (b1_1 R x0 w8)
 (b1_8 R x0 v5 w8)
theorem b1_ok (R:EP):TI prog R code (q1 R) fun z w=>b1 R (z 0) (z 1) w:=appT 1 (b2_ok R)
def run (R:EP) (a0 a1:Value) (w:World):Prop:=b1 R a0 a1 w
theorem calls (R:EP) (a0 a1:Value) (w:World) (h:run R a0 a1 w):Calls prog id #[a0,a1] w R:=cls_t func84 [a0,a1] (b1_ok R _ w h)
theorem enters:Enters prog id:=fun args w=>call84 args w
theorem ct {a0 a1:Value} {w:World} {S:VP} (h:∀R:EP,(∀v w,S v w→R (.returned v) w)→run R a0 a1 w):Ct prog id #[a0,a1] w S :=
 Ct.intro enters fun R hR=>calls R a0 a1 w (h R hR)
attribute [irreducible,go_sem] b3 b2_1 b2 b1_1 b1_2 b1_3 b1_4 b1_5 b1_6 b1_7 b1_8 b1 run
end ref04_Text_header

/-! ### (*presage/presageref04.Text).begin -/
namespace ref04_Text_begin
noncomputable def code:Code:=bodyOf f85
noncomputable abbrev p1:Code:=dropC 5 code
def b2 (R:EP) (x0:Value) (w:World) (_r:Tok R:=tok R):Prop :=
 NILC x0 fun v1 =>
 RUN prog R (fieldAt 69 v1 0) w fun v2 w3 =>
 RUNU prog R (storeAt 3 v2 (Value.int .i64 5)) w3 fun w4 =>
 R (.returned (Value.bool true)) w4
abbrev r0 (R:EP) (z:Env) (w:World):Prop:=R (.returned (z 4)) w
abbrev q1 (R:EP):XP:=QX (r0 R) (r0 R) []
theorem b2_ok (R:EP):TI prog R p1 (q1 R) fun z w=>b2 R (z 0) w:=ofT
def b1_1 (R:EP) (x0 v1:Value) (w25:World) (_r:Tok R:=tok R):Prop :=
 NILC x0 fun v26 =>
 PUR prog (fieldAt 69 v26 6) fun v27 =>
 LD prog (loadAt 24 v27) (World.drew w25) fun v28 =>
 PUR prog (fieldAt 46 v1 1) fun v29 =>
 LD prog (loadAt 9 v29) (World.drew w25) fun v30 =>
 RUN prog R (buildSlice 24 1 #[(0,v30)]) (World.drew w25) fun v31 w32 =>
 Sem.run prog (loadAt 24 v27) w32 = .ok v28 w32∧(RUN prog R (Builtin.append_ #[24,24] 24 #[v28,v31]) w32 fun v33 w34 =>
 NILC x0 fun v35 =>
 PUR prog (fieldAt 69 v35 6) fun v36 =>
 RUNU prog R (storeAt 24 v36 v33) w34 fun w37 =>
 b2 R x0 w37)
def b1_2 (R:EP) (x0 v1:Value) (w8:World) (_r:Tok R:=tok R):Prop :=
 RUN prog R (fieldAt 46 v1 1) w8 fun v9 w10 =>
 RUN prog R (loadAt 9 v9) w10 fun v11 w12 =>
 NILC x0 fun v13 =>
 RUN prog R (fieldAt 69 v13 5) w12 fun v14 w15 =>
 RUNU prog R (storeAt 9 v14 v11) w15 fun w16 =>
 NILC x0 fun v17 =>
 PUR prog (fieldAt 69 v17 6) fun v18 =>
 LD prog (loadAt 24 v18) (World.drew w16) fun v19 =>
 PUR prog (fieldAt 46 v1 1) fun v20 =>
 LD prog (loadAt 9 v20) (World.drew w16) fun v21 =>
 CALL prog R ref04_has.id #[v19,v21] (World.drew w16) fun v22 w23 =>
 RUN prog R (Op.unary .not v22) w23 fun v24 w25 =>
 SPL v24
 (b1_1 R x0 v1 w25)
 (b2 R x0 w25)
def b1 (R:EP) (x0 x1:Value) (w:World) (_r:Tok R:=tok R):Prop :=
 RUN prog R (box 46 x1) w fun v1 w2 =>
 RUN prog R (fieldAt 46 v1 0) w2 fun v3 w4 =>
 RUN prog R (loadAt 3 v3) w4 fun v5 w6 =>
 RUN prog R (bins .neq 3 (.tmp 7) (.const (Value.int .i64 1)) v5 (Value.int .i64 1)) w6 fun v7 w8 =>
 SPL v7
 (R (.returned (Value.bool false)) w8)
 (b1_2 R x0 v1 w8)
theorem b1_ok (R:EP):TI prog R code (q1 R) fun z w=>b1 R (z 0) (z 1) w:=appT 4 (b2_ok R)
def run (R:EP) (a0 a1:Value) (w:World):Prop:=b1 R a0 a1 w
theorem calls (R:EP) (a0 a1:Value) (w:World) (h:run R a0 a1 w):Calls prog id #[a0,a1] w R:=cls_t func85 [a0,a1] (b1_ok R _ w h)
theorem enters:Enters prog id:=fun args w=>call85 args w
theorem ct {a0 a1:Value} {w:World} {S:VP} (h:∀R:EP,(∀v w,S v w→R (.returned v) w)→run R a0 a1 w):Ct prog id #[a0,a1] w S :=
 Ct.intro enters fun R hR=>calls R a0 a1 w (h R hR)
attribute [irreducible,go_sem] b2 b1_1 b1_2 b1 run
end ref04_Text_begin

/-! ### (*presage/presageref04.Text).listed -/
namespace ref04_Text_listed
noncomputable def code:Code:=bodyOf f86
noncomputable abbrev p1:Code:=dropC 2 code
noncomputable abbrev p2:Code:=dropC 1 (sndC p1)
noncomputable abbrev p3:Code:=dropC 1 p2

def b5 (R:EP) (x0:Value) (w:World) (_r:Tok R:=tok R):Prop :=
 NILC x0 fun v1 =>
 RUN prog R (fieldAt 69 v1 0) w fun v2 w3 =>
 RUNU prog R (storeAt 3 v2 (Value.int .i64 2)) w3 fun w4 =>
 R (.returned (Value.bool true)) w4
abbrev r0 (R:EP) (z:Env) (w:World):Prop:=R (.returned (z 4)) w
abbrev q1 (R:EP):XP:=QX (r0 R) (r0 R) []
theorem b5_ok (R:EP):TI prog R p3 (q1 R) fun z w=>b5 R (z 0) w:=ofT
def b4_1 (R:EP) (x0 x5:Value) (w7:World) (_r:Tok R:=tok R):Prop :=
 NILC x0 fun v8 =>
 PUR prog (fieldAt 69 v8 2) fun v9 =>
 LD prog (loadAt 23 v9) (World.drew w7) fun v10 =>
 NILC x0 fun v11 =>
 PUR prog (fieldAt 69 v11 3) fun v12 =>
 LD prog (loadAt 25 v12) (World.drew w7) fun v13 =>
 LD prog (Builtin.len_ #[25] 3 #[v13]) (World.drew w7) fun v14 =>
 PUR prog (indexAt 23 v10 x5) fun v15 =>
 PUR prog (fieldAt 39 v15 1) fun v16 =>
 RUNU prog R (storeAt 3 v16 v14) (World.drew w7) fun w17 =>
 b5 R x0 w17

def b4 (R:EP) (x0 x5:Value) (w:World) (_r:Tok R:=tok R):Prop :=
 NILC x0 fun v1 =>
 RUN prog R (fieldAt 69 v1 1) w fun v2 w3 =>
 RUN prog R (loadAt 3 v2) w3 fun v4 w5 =>
 RUN prog R (bins .gtr 3 (.tmp 55) (.const (Value.int .i64 0)) v4 (Value.int .i64 0)) w5 fun v6 w7 =>
 SPL v6
 (b4_1 R x0 x5 w7)
 (b5 R x0 w7)
theorem b4_ok (R:EP):TI prog R p2 (q1 R) fun z w=>b4 R (z 0) (z 5) w:=appT 0 (b5_ok R)
def b3_1 (R:EP) (x0 x1:Value) (w2:World) (_r:Tok R:=tok R):Prop :=
 NILC x0 fun v3 =>
 RUN prog R (fieldAt 69 v3 2) w2 fun v4 w5 =>
 RUN prog R (loadAt 23 v4) w5 fun v6 w7 =>
 RUN prog R (build 39 #[(0,x1)]) w7 fun v8 w9 =>
 RUN prog R (buildSlice 23 1 #[(0,v8)]) w9 fun v10 w11 =>
 RUN prog R (Builtin.append_ #[23,23] 23 #[v6,v10]) w11 fun v12 w13 =>
 NILC x0 fun v14 =>
 RUN prog R (fieldAt 69 v14 2) w13 fun v15 w16 =>
 RUNU prog R (storeAt 23 v15 v12) w16 fun w17 =>
 NILC x0 fun v18 =>
 RUN prog R (fieldAt 69 v18 2) w17 fun v19 w20 =>
 RUN prog R (loadAt 23 v19) w20 fun v21 w22 =>
 RUN prog R (Builtin.len_ #[23] 3 #[v21]) w22 fun v23 w24 =>
 RUN prog R (bins .sub 3 (.tmp 50) (.const (Value.int .i64 1)) v23 (Value.int .i64 1)) w24 fun v25 w26 =>
 b4 R x0 v25 w26

def b3 (R:EP) (x0 x1 x5:Value) (w:World) (_r:Tok R:=tok R):Prop :=
 RUN prog R (bins .lss 3 (.tmp 33) (.const (Value.int .i64 0)) x5 (Value.int .i64 0)) w fun v1 w2 =>
 SPL v1
 (b3_1 R x0 x1 w2)
 (b4 R x0 x5 w2)
theorem b3_ok (R:EP):TI prog R (sndC p1) (q1 R) fun z w=>b3 R (z 0) (z 1) (z 5) w:=appT 0 (b4_ok R)
noncomputable abbrev p4:Code:=dropC 1 (fstC p1)

def b7 (R:EP) (x0 x1 x5 x32:Value) (w:World) (_r:Tok R:=tok R):Prop :=
 SPL x32
 (R (.returned (Value.bool false)) w)
 (b3 R x0 x1 x5 w)
abbrev q2 (R:EP):XP:=QX (fun z w=>b3 R (z 0) (z 1) (z 5) w) (r0 R) []
theorem b7_ok (R:EP):TI prog R p4 (q2 R) fun z w=>b7 R (z 0) (z 1) (z 5) (z 32) w:=ofT
def b6_1 (R:EP) (x0 x1 x5:Value) (w11:World) (_r:Tok R:=tok R):Prop :=
 NILC x0 fun v12 =>
 RUN prog R (fieldAt 69 v12 2) w11 fun v13 w14 =>
 RUN prog R (loadAt 23 v13) w14 fun v15 w16 =>
 RUN prog R (indexAt 23 v15 x5) w16 fun v17 w18 =>
 RUN prog R (fieldAt 39 v17 1) w18 fun v19 w20 =>
 RUN prog R (loadAt 3 v19) w20 fun v21 w22 =>
 RUN prog R (bins .gtr 3 (.tmp 29) (.const (Value.int .i64 0)) v21 (Value.int .i64 0)) w22 fun v23 w24 =>
 b7 R x0 x1 x5 v23 w24
def b6_2 (R:EP) (x0 x1 x5:Value) (w7:World) (_r:Tok R:=tok R):Prop :=
 RUN prog R (bins .geq 3 (.tmp 15) (.const (Value.int .i64 0)) x5 (Value.int .i64 0)) w7 fun v8 w9 =>
 SPL v8
 (b7 R x0 x1 x5 (Value.bool true) w9)
 (RUN prog R (bins .geq 3 (.tmp 19) (.const (Value.int .i64 0)) x5 (Value.int .i64 0)) w9 fun v10 w11 =>
 SPL v10
 (b6_1 R x0 x1 x5 w11)
 (b7 R x0 x1 x5 (Value.bool false) w11))
def b6_3 (R:EP) (x0 x1 x5:Value) (w26:World) (_r:Tok R:=tok R):Prop :=
 NILC x0 fun v27 =>
 RUN prog R (fieldAt 69 v27 2) w26 fun v28 w29 =>
 RUN prog R (loadAt 23 v28) w29 fun v30 w31 =>
 RUN prog R (indexAt 23 v30 x5) w31 fun v32 w33 =>
 RUN prog R (fieldAt 39 v32 1) w33 fun v34 w35 =>
 RUN prog R (loadAt 3 v34) w35 fun v36 w37 =>
 RUN prog R (bins .gtr 3 (.tmp 29) (.const (Value.int .i64 0)) v36 (Value.int .i64 0)) w37 fun v38 w39 =>
 b7 R x0 x1 x5 v38 w39

def b6 (R:EP) (x0 x1 x5:Value) (w:World) (_r:Tok R:=tok R):Prop :=
 NILC x0 fun v1 =>
 RUN prog R (fieldAt 69 v1 1) w fun v2 w3 =>
 RUN prog R (loadAt 3 v2) w3 fun v4 w5 =>
 RUN prog R (bins .eql 3 (.tmp 12) (.const (Value.int .i64 0)) v4 (Value.int .i64 0)) w5 fun v6 w7 =>
 SPL v6
 (b6_2 R x0 x1 x5 w7)
 (RUN prog R (bins .geq 3 (.tmp 19) (.const (Value.int .i64 0)) x5 (Value.int .i64 0)) w7 fun v25 w26 =>
 SPL v25
 (b6_3 R x0 x1 x5 w26)
 (b7 R x0 x1 x5 (Value.bool false) w26))
theorem b6_ok (R:EP):TI prog R (fstC p1) (q2 R) fun z w=>b6 R (z 0) (z 1) (z 5) w:=appT 0 (b7_ok R)
theorem k2_ok (R:EP):TI prog R p1 (q1 R) fun z w=>b6 R (z 0) (z 1) (z 5) w:=seqT (b6_ok R) (b3_ok R)

def b1 (R:EP) (x0 x1:Value) (w:World) (_r:Tok R:=tok R):Prop :=
 CALL prog R ref04_Text_term.id #[x0,x1] w fun v1 w2 =>
 b6 R x0 x1 v1 w2
theorem b1_ok (R:EP):TI prog R code (q1 R) fun z w=>b1 R (z 0) (z 1) w:=appT 1 (k2_ok R)
def run (R:EP) (a0 a1:Value) (w:World):Prop:=b1 R a0 a1 w
theorem calls (R:EP) (a0 a1:Value) (w:World) (h:run R a0 a1 w):Calls prog id #[a0,a1] w R:=cls_t func86 [a0,a1] (b1_ok R _ w h)
theorem enters:Enters prog id:=fun args w=>call86 args w
theorem ct {a0 a1:Value} {w:World} {S:VP} (h:∀R:EP,(∀v w,S v w→R (.returned v) w)→run R a0 a1 w):Ct prog id #[a0,a1] w S :=
 Ct.intro enters fun R hR=>calls R a0 a1 w (h R hR)
attribute [irreducible,go_sem] b5 b4_1 b4 b3_1 b3 b7 b6_1 b6_2 b6_3 b6 b1 run
end ref04_Text_listed

/-! ### (*presage/presageref04.Text).within -/
namespace ref04_Text_within
noncomputable def code:Code:=bodyOf f88
noncomputable abbrev p1:Code:=dropC 2 code

def b3 (R:EP) (w:World) (_r:Tok R:=tok R):Prop :=
 R (.returned (Value.bool true)) w
abbrev r0 (R:EP) (z:Env) (w:World):Prop:=R (.returned (z 4)) w
abbrev q1 (R:EP):XP:=QX (r0 R) (r0 R) []
theorem b3_ok (R:EP):TI prog R (sndC p1) (q1 R) fun z w=>b3 R w:=ofT
noncomputable abbrev p2:Code:=blkC (fstC p1)
noncomputable abbrev p3:Code:=dropC 1 p2

def b7 (R:EP) (x0:Value) (w:World) (_r:Tok R:=tok R):Prop :=
 CALL prog R ref04_Text_another.id #[x0] w fun v1 w2 =>
 b3 R w2
abbrev q2 (R:EP):XP:=QX (fun z w=>b3 R  w) (r0 R) [(0,(fun z w=>b3 R  w))]
theorem b7_ok (R:EP):TI prog R (thnC p3) (q2 R) fun z w=>b7 R (z 0) w:=ofT
noncomputable abbrev p4:Code:=dropC 1 (elsC p3)

def b10 (R:EP) (x0:Value) (w:World) (_r:Tok R:=tok R):Prop :=
 NILC x0 fun v1 =>
 RUN prog R (fieldAt 69 v1 0) w fun v2 w3 =>
 RUNU prog R (storeAt 3 v2 (Value.int .i64 9)) w3 fun w4 =>
 b3 R w4
theorem b10_ok (R:EP):TI prog R (thnC p4) (q2 R) fun z w=>b10 R (z 0) w:=ofT
noncomputable abbrev p5:Code:=dropC 1 (elsC p4)

def b13 (R:EP) (x3 x5:Value) (w:World) (_r:Tok R:=tok R):Prop :=
 NILC x5 fun v1 =>
 PUR prog (fieldAt 124 v1 1) fun v2 =>
 LD prog (loadAt 41 v2) (World.drew w) fun v3 =>
 LD prog (loadAt 46 x3) (World.drew w) fun v4 =>
 RUN prog R (buildSlice 41 1 #[(0,v4)]) (World.drew w) fun v5 w6 =>
 Sem.run prog (loadAt 41 v2) w6 = .ok v3 w6∧(RUN prog R (Builtin.append_ #[41,41] 41 #[v3,v5]) w6 fun v7 w8 =>
 NILC x5 fun v9 =>
 PUR prog (fieldAt 124 v9 1) fun v10 =>
 RUNU prog R (storeAt 41 v10 v7) w8 fun w11 =>
 b3 R w11)
theorem b13_ok (R:EP):TI prog R (thnC p5) (q2 R) fun z w=>b13 R (z 3) (z 5) w:=ofT
noncomputable abbrev p6:Code:=dropC 1 (elsC p5)

def b16 (R:EP) (x0 x5:Value) (w:World) (_r:Tok R:=tok R):Prop :=
 NILC x5 fun v1 =>
 RUN prog R (fieldAt 124 v1 2) w fun v2 w3 =>
 RUNU prog R (storeAt 3 v2 (Value.int .i64 1)) w3 fun w4 =>
 NILC x0 fun v5 =>
 RUN prog R (fieldAt 69 v5 0) w4 fun v6 w7 =>
 RUNU prog R (storeAt 3 v6 (Value.int .i64 7)) w7 fun w8 =>
 b3 R w8
theorem b16_ok (R:EP):TI prog R (thnC p6) (q2 R) fun z w=>b16 R (z 0) (z 5) w:=ofT
noncomputable abbrev p7:Code:=dropC 1 (elsC p6)
def b18_1 (R:EP) (x0 x5:Value) (w:World) (_r:Tok R:=tok R):Prop :=
 NILC x5 fun v1 =>
 RUN prog R (fieldAt 124 v1 2) w fun v2 w3 =>
 RUNU prog R (storeAt 3 v2 (Value.int .i64 2)) w3 fun w4 =>
 NILC x0 fun v5 =>
 RUN prog R (fieldAt 69 v5 0) w4 fun v6 w7 =>
 RUNU prog R (storeAt 3 v6 (Value.int .i64 8)) w7 fun w8 =>
 b3 R w8

def b18 (R:EP) (x0 x5 x88:Value) (w:World) (_r:Tok R:=tok R):Prop :=
 SPL x88
 (b18_1 R x0 x5 w)
 (R (.returned (Value.bool false)) w)
theorem b18_ok (R:EP):TI prog R p7 (q2 R) fun z w=>b18 R (z 0) (z 5) (z 88) w:=ofT
def b17_1 (R:EP) (x0 x3 x5:Value) (w13:World) (_r:Tok R:=tok R):Prop :=
 RUN prog R (fieldAt 46 x3 0) w13 fun v14 w15 =>
 RUN prog R (loadAt 3 v14) w15 fun v16 w17 =>
 RUN prog R (bins .eql 3 (.tmp 101) (.const (Value.int .i64 3)) v16 (Value.int .i64 3)) w17 fun v18 w19 =>
 b18 R x0 x5 v18 w19
def b17_2 (R:EP) (x0 x3 x5:Value) (w7:World) (_r:Tok R:=tok R):Prop :=
 RUN prog R (fieldAt 46 x3 1) w7 fun v8 w9 =>
 RUN prog R (loadAt 9 v8) w9 fun v10 w11 =>
 RUN prog R (bins .eql 9 (.tmp 96) (.const (Value.string ⟨#[37,110,111,110,101]⟩)) v10 (Value.string ⟨#[37,110,111,110,101]⟩)) w11 fun v12 w13 =>
 SPL v12
 (b17_1 R x0 x3 x5 w13)
 (b18 R x0 x5 (Value.bool false) w13)

def b17 (R:EP) (x0 x3 x5:Value) (w:World) (_r:Tok R:=tok R):Prop :=
 NILC x0 fun v1 =>
 RUN prog R (fieldAt 69 v1 0) w fun v2 w3 =>
 RUN prog R (loadAt 3 v2) w3 fun v4 w5 =>
 RUN prog R (bins .eql 3 (.tmp 92) (.const (Value.int .i64 6)) v4 (Value.int .i64 6)) w5 fun v6 w7 =>
 SPL v6
 (b17_2 R x0 x3 x5 w7)
 (b18 R x0 x5 (Value.bool false) w7)
theorem b17_ok (R:EP):TI prog R (elsC p6) (q2 R) fun z w=>b17 R (z 0) (z 3) (z 5) w:=appT 0 (b18_ok R)

def b15 (R:EP) (x0 x3 x5 x66:Value) (w:World) (_r:Tok R:=tok R):Prop :=
 SPL x66 (b16 R x0 x5 w) (b17 R x0 x3 x5 w)
theorem b15_ok (R:EP):TI prog R p6 (q2 R) fun z w=>b15 R (z 0) (z 3) (z 5) (z 66) w:=fun z w h=>by
 have e:Code.cond (.tmp 66) (thnC p6) (elsC p6)=p6:=by kernel_rfl
 rw [←e]
 exact condQ' h (fun h=>b16_ok R z w h) (fun h=>b17_ok R z w h)
def b14_1 (R:EP) (x0 x3 x5:Value) (w13:World) (_r:Tok R:=tok R):Prop :=
 RUN prog R (fieldAt 46 x3 0) w13 fun v14 w15 =>
 RUN prog R (loadAt 3 v14) w15 fun v16 w17 =>
 RUN prog R (bins .eql 3 (.tmp 79) (.const (Value.int .i64 3)) v16 (Value.int .i64 3)) w17 fun v18 w19 =>
 b15 R x0 x3 x5 v18 w19
def b14_2 (R:EP) (x0 x3 x5:Value) (w7:World) (_r:Tok R:=tok R):Prop :=
 RUN prog R (fieldAt 46 x3 1) w7 fun v8 w9 =>
 RUN prog R (loadAt 9 v8) w9 fun v10 w11 =>
 RUN prog R (bins .eql 9 (.tmp 74) (.const (Value.string ⟨#[37,112,114,101,99]⟩)) v10 (Value.string ⟨#[37,112,114,101,99]⟩)) w11 fun v12 w13 =>
 SPL v12
 (b14_1 R x0 x3 x5 w13)
 (b15 R x0 x3 x5 (Value.bool false) w13)

def b14 (R:EP) (x0 x3 x5:Value) (w:World) (_r:Tok R:=tok R):Prop :=
 NILC x0 fun v1 =>
 RUN prog R (fieldAt 69 v1 0) w fun v2 w3 =>
 RUN prog R (loadAt 3 v2) w3 fun v4 w5 =>
 RUN prog R (bins .eql 3 (.tmp 70) (.const (Value.int .i64 6)) v4 (Value.int .i64 6)) w5 fun v6 w7 =>
 SPL v6
 (b14_2 R x0 x3 x5 w7)
 (b15 R x0 x3 x5 (Value.bool false) w7)
theorem b14_ok (R:EP):TI prog R (elsC p5) (q2 R) fun z w=>b14 R (z 0) (z 3) (z 5) w:=appT 0 (b15_ok R)

def b12 (R:EP) (x0 x3 x5 x40:Value) (w:World) (_r:Tok R:=tok R):Prop :=
 SPL x40 (b13 R x3 x5 w) (b14 R x0 x3 x5 w)
theorem b12_ok (R:EP):TI prog R p5 (q2 R) fun z w=>b12 R (z 0) (z 3) (z 5) (z 40) w:=fun z w h=>by
 have e:Code.cond (.tmp 40) (thnC p5) (elsC p5)=p5:=by kernel_rfl
 rw [←e]
 exact condQ' h (fun h=>b13_ok R z w h) (fun h=>b14_ok R z w h)
def b11_1 (R:EP) (x0 x3 x5:Value) (w13:World) (_r:Tok R:=tok R):Prop :=
 RUN prog R (fieldAt 46 x3 0) w13 fun v14 w15 =>
 RUN prog R (loadAt 3 v14) w15 fun v16 w17 =>
 RUN prog R (bins .eql 3 (.tmp 52) (.const (Value.int .i64 2)) v16 (Value.int .i64 2)) w17 fun v18 w19 =>
 b12 R x0 x3 x5 v18 w19
def b11_2 (R:EP) (x0 x3 x5:Value) (w7:World) (_r:Tok R:=tok R):Prop :=
 RUN prog R (fieldAt 46 x3 0) w7 fun v8 w9 =>
 RUN prog R (loadAt 3 v8) w9 fun v10 w11 =>
 RUN prog R (bins .eql 3 (.tmp 48) (.const (Value.int .i64 1)) v10 (Value.int .i64 1)) w11 fun v12 w13 =>
 SPL v12
 (b12 R x0 x3 x5 (Value.bool true) w13)
 (b11_1 R x0 x3 x5 w13)

def b11 (R:EP) (x0 x3 x5:Value) (w:World) (_r:Tok R:=tok R):Prop :=
 NILC x0 fun v1 =>
 RUN prog R (fieldAt 69 v1 0) w fun v2 w3 =>
 RUN prog R (loadAt 3 v2) w3 fun v4 w5 =>
 RUN prog R (bins .eql 3 (.tmp 44) (.const (Value.int .i64 6)) v4 (Value.int .i64 6)) w5 fun v6 w7 =>
 SPL v6
 (b11_2 R x0 x3 x5 w7)
 (b12 R x0 x3 x5 (Value.bool false) w7)
theorem b11_ok (R:EP):TI prog R (elsC p4) (q2 R) fun z w=>b11 R (z 0) (z 3) (z 5) w:=appT 0 (b12_ok R)

def b9 (R:EP) (x0 x3 x5 x28:Value) (w:World) (_r:Tok R:=tok R):Prop :=
 SPL x28 (b10 R x0 w) (b11 R x0 x3 x5 w)
theorem b9_ok (R:EP):TI prog R p4 (q2 R) fun z w=>b9 R (z 0) (z 3) (z 5) (z 28) w:=fun z w h=>by
 have e:Code.cond (.tmp 28) (thnC p4) (elsC p4)=p4:=by kernel_rfl
 rw [←e]
 exact condQ' h (fun h=>b10_ok R z w h) (fun h=>b11_ok R z w h)
def b8_1 (R:EP) (x0 x3 x5:Value) (w6:World) (_r:Tok R:=tok R):Prop :=
 RUN prog R (fieldAt 46 x3 1) w6 fun v7 w8 =>
 RUN prog R (loadAt 9 v7) w8 fun v9 w10 =>
 RUN prog R (bins .eql 9 (.tmp 34) (.const (Value.string ⟨#[59]⟩)) v9 (Value.string ⟨#[59]⟩)) w10 fun v11 w12 =>
 b9 R x0 x3 x5 v11 w12

def b8 (R:EP) (x0 x3 x5:Value) (w:World) (_r:Tok R:=tok R):Prop :=
 RUN prog R (fieldAt 46 x3 0) w fun v1 w2 =>
 RUN prog R (loadAt 3 v1) w2 fun v3 w4 =>
 RUN prog R (bins .eql 3 (.tmp 30) (.const (Value.int .i64 4)) v3 (Value.int .i64 4)) w4 fun v5 w6 =>
 SPL v5
 (b8_1 R x0 x3 x5 w6)
 (b9 R x0 x3 x5 (Value.bool false) w6)
theorem b8_ok (R:EP):TI prog R (elsC p3) (q2 R) fun z w=>b8 R (z 0) (z 3) (z 5) w:=appT 0 (b9_ok R)

def b6 (R:EP) (x0 x3 x5 x17:Value) (w:World) (_r:Tok R:=tok R):Prop :=
 SPL x17 (b7 R x0 w) (b8 R x0 x3 x5 w)
theorem b6_ok (R:EP):TI prog R p3 (q2 R) fun z w=>b6 R (z 0) (z 3) (z 5) (z 17) w:=fun z w h=>by
 have e:Code.cond (.tmp 17) (thnC p3) (elsC p3)=p3:=by kernel_rfl
 rw [←e]
 exact condQ' h (fun h=>b7_ok R z w h) (fun h=>b8_ok R z w h)
def b5_1 (R:EP) (x0 x3 x5:Value) (w6:World) (_r:Tok R:=tok R):Prop :=
 RUN prog R (fieldAt 46 x3 1) w6 fun v7 w8 =>
 RUN prog R (loadAt 9 v7) w8 fun v9 w10 =>
 RUN prog R (bins .eql 9 (.tmp 23) (.const (Value.string ⟨#[124]⟩)) v9 (Value.string ⟨#[124]⟩)) w10 fun v11 w12 =>
 b6 R x0 x3 x5 v11 w12

def b5 (R:EP) (x0 x3 x5:Value) (w:World) (_r:Tok R:=tok R):Prop :=
 RUN prog R (fieldAt 46 x3 0) w fun v1 w2 =>
 RUN prog R (loadAt 3 v1) w2 fun v3 w4 =>
 RUN prog R (bins .eql 3 (.tmp 19) (.const (Value.int .i64 4)) v3 (Value.int .i64 4)) w4 fun v5 w6 =>
 SPL v5
 (b5_1 R x0 x3 x5 w6)
 (b6 R x0 x3 x5 (Value.bool false) w6)
theorem b5_ok (R:EP):TI prog R p2 (q2 R) fun z w=>b5 R (z 0) (z 3) (z 5) w:=appT 0 (b6_ok R)
abbrev q3 (R:EP):XP:=QX (fun z w=>b3 R  w) (r0 R) []
theorem k4_ok (R:EP):TI prog R (fstC p1) (q3 R) fun z w=>b5 R (z 0) (z 3) (z 5) w:=blockT 0 (b5_ok R)
theorem k2_ok (R:EP):TI prog R p1 (q1 R) fun z w=>b5 R (z 0) (z 3) (z 5) w:=seqT (k4_ok R) (b3_ok R)

def b1 (R:EP) (x0 x1:Value) (w:World) (_r:Tok R:=tok R):Prop :=
 RUN prog R (box 46 x1) w fun v1 w2 =>
 NILC x0 fun v3 =>
 PUR prog (fieldAt 69 v3 4) fun v4 =>
 LD prog (loadAt 67 v4) (World.drew w2) fun v5 =>
 NILC x0 fun v6 =>
 PUR prog (fieldAt 69 v6 4) fun v7 =>
 LD prog (loadAt 67 v7) (World.drew w2) fun v8 =>
 LD prog (Builtin.len_ #[67] 3 #[v8]) (World.drew w2) fun v9 =>
 PUR prog (bins .sub 3 (.tmp 14) (.const (Value.int .i64 1)) v9 (Value.int .i64 1)) fun v10 =>
 PUR prog (indexAt 67 v5 v10) fun v11 =>
 b5 R x0 v1 v11 (World.drew w2)
theorem b1_ok (R:EP):TI prog R code (q1 R) fun z w=>b1 R (z 0) (z 1) w:=appT 1 (k2_ok R)
def run (R:EP) (a0 a1:Value) (w:World):Prop:=b1 R a0 a1 w
theorem calls (R:EP) (a0 a1:Value) (w:World) (h:run R a0 a1 w):Calls prog id #[a0,a1] w R:=cls_t func88 [a0,a1] (b1_ok R _ w h)
theorem enters:Enters prog id:=fun args w=>call88 args w
theorem ct {a0 a1:Value} {w:World} {S:VP} (h:∀R:EP,(∀v w,S v w→R (.returned v) w)→run R a0 a1 w):Ct prog id #[a0,a1] w S :=
 Ct.intro enters fun R hR=>calls R a0 a1 w (h R hR)
attribute [irreducible,go_sem] b3 b7 b10 b13 b16 b18_1 b18 b17_1 b17_2 b17 b15 b14_1 b14_2 b14 b12 b11_1 b11_2 b11 b9 b8_1 b8 b6 b5_1 b5 b1 run
end ref04_Text_within
end Go.Proofs.YtckbgeedlobfaaaDoor
