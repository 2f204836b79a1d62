/- Shallow programs, written by a program of ours (gen.py) off the translation; each is tied to the code by the kernel. -/
import Derived.Test.YtckbgeedlobfaaaDoorY04
set_option linter.unusedVariables false
set_option maxRecDepth 100000
namespace Go.Proofs.YtckbgeedlobfaaaDoor
open Go.Px

/-! ### presage/presagelaw04.SpecRows -/
namespace law04_SpecRows
noncomputable def code:Code:=bodyOf Tryd.f7
noncomputable abbrev p1:Code:=dropC 6 code
def b3_1 (R:EP) (x0 x3 v1:Value) (w2:World) (_r:Tok R:=tok R):Prop :=
 RUN Tryd.prog (pan R) (Builtin.len_ #[9] 3 #[v1]) w2 fun v3 w4 =>
 RUN Tryd.prog (pan R) (bins .gtr 3 (.tmp 84) (.const (Go.Value.int Go.IntKind.i64 8192)) v3 (Go.Value.int Go.IntKind.i64 8192)) w4 fun v5 w6 =>
 SPL v5
 (R (.returned x3) w6)
 (CALL Tryd.prog (pan R) law04_alike.id #[x0,v1] w6 fun v7 w8 =>
 SPL x3
 (R (.returned v7) w8)
 (R (.returned (Go.Value.bool Bool.false)) w8))

def b3 (R:EP) (x0 x3 x6:Value) (w:World) (_r:Tok R:=tok R):Prop :=
 CALL Tryd.prog (pan R) law04_joined.id #[x6] w fun v1 w2 =>
 b3_1 R x0 x3 v1 w2
abbrev q1 (R:EP):XP:=QX (fun ρ w=>R (.returned (ρ 2)) w) (fun ρ w=>R (.returned (ρ 2)) w) []
theorem b3_eq (R:EP) (ρ:Env) (w:World):(b3 R (ρ 0) (ρ 3) (ρ 6) w)=codeP Tryd.prog (pan R) (sndC p1) (q1 R) ρ w:=by kernel_rfl
theorem b3_ok (R:EP) (ρ:Env) (w:World) (h:b3 R (ρ 0) (ρ 3) (ρ 6) w):codeP Tryd.prog (pan R) (sndC p1) (q1 R) ρ w:=(b3_eq R ρ w).mp h
noncomputable abbrev p2:Code:=dropC 1 (fstC p1)
noncomputable abbrev p3:Code:=loopC (blkC p2)
noncomputable abbrev p4:Code:=dropC 1 p3

def b9 (R:EP) (C6:Value→VP) (x6 x8:Value) (w:World) (_r:Tok R:=tok R) (_C6:Tok C6:=tok C6):Prop :=
 RUN Tryd.prog (pan R) (bins .add 3 (.tmp 25) (.const (Go.Value.int Go.IntKind.i64 1)) x8 (Go.Value.int Go.IntKind.i64 1)) w fun v1 w2 =>
 C6 x6 v1 w2
abbrev q2 (R:EP) (C6:Value→VP):XP:=QX (fun ρ w=>C6 (ρ 6) (ρ 8) w) (fun ρ w=>R (.returned (ρ 2)) w) [(0,(fun ρ w=>b3 R (ρ 0) (ρ 3) (ρ 6) w))]
theorem b9_eq (R:EP) (C6:Value→VP) (ρ:Env) (w:World):(b9 R C6 (ρ 6) (ρ 8) w)=codeP Tryd.prog (pan R) (sndC p4) (q2 R C6) ρ w:=by kernel_rfl
theorem b9_ok (R:EP) (C6:Value→VP) (ρ:Env) (w:World) (h:b9 R C6 (ρ 6) (ρ 8) w):codeP Tryd.prog (pan R) (sndC p4) (q2 R C6) ρ w:=(b9_eq R C6 ρ w).mp h
noncomputable abbrev p5:Code:=blkC (fstC p4)
noncomputable abbrev p6:Code:=sndC (sndC p5)

def b13 (R:EP) (C6:Value→VP) (x4 x6 x8:Value) (w:World) (_r:Tok R:=tok R) (_C6:Tok C6:=tok C6):Prop :=
 RUN Tryd.prog (pan R) (Instr.indexAt 41 x4 x8) w fun v1 w2 =>
 RUN Tryd.prog (pan R) (Instr.loadAt 46 v1) w2 fun v3 w4 =>
 RUN Tryd.prog (pan R) (Instr.buildSlice 41 1 #[(0,v3)]) w4 fun v5 w6 =>
 RUN Tryd.prog (pan R) (Builtin.append_ #[41,41] 41 #[x6,v5]) w6 fun v7 w8 =>
 b9 R C6 v7 x8 w8
abbrev q3 (R:EP) (C6:Value→VP):XP:=QX (fun ρ w=>b9 R C6 (ρ 6) (ρ 8) w) (fun ρ w=>R (.returned (ρ 2)) w) [(2,(fun ρ w=>b9 R C6 (ρ 6) (ρ 8) w)),(0,(fun ρ w=>b3 R (ρ 0) (ρ 3) (ρ 6) w))]
theorem b13_eq (R:EP) (C6:Value→VP) (ρ:Env) (w:World):(b13 R C6 (ρ 4) (ρ 6) (ρ 8) w)=codeP Tryd.prog (pan R) p6 (q3 R C6) ρ w:=by kernel_rfl
theorem b13_ok (R:EP) (C6:Value→VP) (ρ:Env) (w:World) (h:b13 R C6 (ρ 4) (ρ 6) (ρ 8) w):codeP Tryd.prog (pan R) p6 (q3 R C6) ρ w:=(b13_eq R C6 ρ w).mp h
noncomputable abbrev p7:Code:=fstC (sndC p5)
noncomputable abbrev p8:Code:=dropC 1 p7
def b15_1 (R:EP) (C6:Value→VP) (x6 x7 x8:Value) (w:World) (_r:Tok R:=tok R) (_C6:Tok C6:=tok C6):Prop :=
 RUN Tryd.prog (pan R) (Instr.build 46 #[(0,(Go.Value.int Go.IntKind.i64 4)),(1,(Go.Value.string {data:=#[59] }))]) w fun v1 w2 =>
 RUN Tryd.prog (pan R) (Instr.loadAt 46 x7) w2 fun v3 w4 =>
 RUN Tryd.prog (pan R) (Instr.build 46 #[(0,(Go.Value.int Go.IntKind.i64 4)),(1,(Go.Value.string {data:=#[58] }))]) w4 fun v5 w6 =>
 RUN Tryd.prog (pan R) (Instr.buildSlice 41 3 #[(0,v1),(1,v3),(2,v5)]) w6 fun v7 w8 =>
 RUN Tryd.prog (pan R) (Builtin.append_ #[41,41] 41 #[x6,v7]) w8 fun v9 w10 =>
 b9 R C6 v9 x8 w10

def b15 (R:EP) (C6:Value→VP) (x4 x6 x7 x8 x67:Value) (w:World) (_r:Tok R:=tok R) (_C6:Tok C6:=tok C6):Prop :=
 SPL x67
 (b15_1 R C6 x6 x7 x8 w)
 (b13 R C6 x4 x6 x8 w)
abbrev q4 (R:EP) (C6:Value→VP):XP:=QX (fun ρ w=>b13 R C6 (ρ 4) (ρ 6) (ρ 8) w) (fun ρ w=>R (.returned (ρ 2)) w) [(2,(fun ρ w=>b9 R C6 (ρ 6) (ρ 8) w)),(0,(fun ρ w=>b3 R (ρ 0) (ρ 3) (ρ 6) w))]
theorem b15_eq (R:EP) (C6:Value→VP) (ρ:Env) (w:World):(b15 R C6 (ρ 4) (ρ 6) (ρ 7) (ρ 8) (ρ 67) w)=codeP Tryd.prog (pan R) p8 (q4 R C6) ρ w:=by kernel_rfl
theorem b15_ok (R:EP) (C6:Value→VP) (ρ:Env) (w:World) (h:b15 R C6 (ρ 4) (ρ 6) (ρ 7) (ρ 8) (ρ 67) w):codeP Tryd.prog (pan R) p8 (q4 R C6) ρ w:=(b15_eq R C6 ρ w).mp h
def b14_1 (R:EP) (C6:Value→VP) (x4 x6 x7 x8:Value) (w8:World) (_r:Tok R:=tok R) (_C6:Tok C6:=tok C6):Prop :=
 RUN Tryd.prog (pan R) (Instr.indexAt 41 x4 x8) w8 fun v9 w10 =>
 RUN Tryd.prog (pan R) (Instr.fieldAt 46 v9 1) w10 fun v11 w12 =>
 RUN Tryd.prog (pan R) (Instr.loadAt 9 v11) w12 fun v13 w14 =>
 RUN Tryd.prog (pan R) (bins .eql 9 (.tmp 65) (.const (Go.Value.string {data:=#[124] })) v13 (Go.Value.string {data:=#[124] })) w14 fun v15 w16 =>
 b15 R C6 x4 x6 x7 x8 v15 w16

def b14 (R:EP) (C6:Value→VP) (x4 x6 x7 x8:Value) (w:World) (_r:Tok R:=tok R) (_C6:Tok C6:=tok C6):Prop :=
 RUN Tryd.prog (pan R) (Instr.indexAt 41 x4 x8) w fun v1 w2 =>
 RUN Tryd.prog (pan R) (Instr.fieldAt 46 v1 0) w2 fun v3 w4 =>
 RUN Tryd.prog (pan R) (Instr.loadAt 3 v3) w4 fun v5 w6 =>
 RUN Tryd.prog (pan R) (bins .eql 3 (.tmp 58) (.const (Go.Value.int Go.IntKind.i64 4)) v5 (Go.Value.int Go.IntKind.i64 4)) w6 fun v7 w8 =>
 SPL v7
 (b14_1 R C6 x4 x6 x7 x8 w8)
 (b15 R C6 x4 x6 x7 x8 (Go.Value.bool Bool.false) w8)
abbrev q5 (R:EP) (C6:Value→VP):XP:=QX (fun ρ w=>b15 R C6 (ρ 4) (ρ 6) (ρ 7) (ρ 8) (ρ 67) w) (fun ρ w=>R (.returned (ρ 2)) w) [(2,(fun ρ w=>b9 R C6 (ρ 6) (ρ 8) w)),(0,(fun ρ w=>b3 R (ρ 0) (ρ 3) (ρ 6) w))]
theorem b14_eq (R:EP) (C6:Value→VP) (ρ:Env) (w:World):(b14 R C6 (ρ 4) (ρ 6) (ρ 7) (ρ 8) w)=codeP Tryd.prog (pan R) (preC 0 p7) (q5 R C6) ρ w:=by kernel_rfl
theorem b14_ok (R:EP) (C6:Value→VP) (ρ:Env) (w:World) (h:b14 R C6 (ρ 4) (ρ 6) (ρ 7) (ρ 8) w):codeP Tryd.prog (pan R) p7 (q4 R C6) ρ w:=by
 have e:appC 0 (preC 0 p7) (dropC 1 p7)=p7:=by kernel_rfl
 rw [←e]
 exact appQ (fun ρ w=>b15 R C6 (ρ 4) (ρ 6) (ρ 7) (ρ 8) (ρ 67) w) 0 ((b14_eq R C6 ρ w).mp h) (fun ρ w h=>b15_ok R C6 ρ w h)
theorem k12_ok (R:EP) (C6:Value→VP) (ρ:Env) (w:World) (h:b14 R C6 (ρ 4) (ρ 6) (ρ 7) (ρ 8) w):codeP Tryd.prog (pan R) (sndC p5) (q3 R C6) ρ w:=by
 have e:Code.seq (fstC (sndC p5)) (sndC (sndC p5))=(sndC p5):=by kernel_rfl
 rw [←e]
 exact seqQ (fun ρ w=>b13 R C6 (ρ 4) (ρ 6) (ρ 8) w) (b14_ok R C6 ρ w h) (fun ρ w h=>b13_ok R C6 ρ w h)
noncomputable abbrev p9:Code:=dropC 1 (fstC p5)
def b17_1 (R:EP) (C6:Value→VP) (x4 x6 x7 x8:Value) (w:World) (_r:Tok R:=tok R) (_C6:Tok C6:=tok C6):Prop :=
 RUN Tryd.prog (pan R) (Instr.indexAt 41 x4 x8) w fun v1 w2 =>
 RUN Tryd.prog (pan R) (Instr.loadAt 46 v1) w2 fun v3 w4 =>
 RUNU Tryd.prog (pan R) (Instr.storeAt 46 x7 v3) w4 fun w5 =>
 b14 R C6 x4 x6 x7 x8 w5

def b17 (R:EP) (C6:Value→VP) (x4 x6 x7 x8 x49:Value) (w:World) (_r:Tok R:=tok R) (_C6:Tok C6:=tok C6):Prop :=
 SPL x49
 (b17_1 R C6 x4 x6 x7 x8 w)
 (b14 R C6 x4 x6 x7 x8 w)
abbrev q6 (R:EP) (C6:Value→VP):XP:=QX (fun ρ w=>b14 R C6 (ρ 4) (ρ 6) (ρ 7) (ρ 8) w) (fun ρ w=>R (.returned (ρ 2)) w) [(2,(fun ρ w=>b9 R C6 (ρ 6) (ρ 8) w)),(0,(fun ρ w=>b3 R (ρ 0) (ρ 3) (ρ 6) w))]
theorem b17_eq (R:EP) (C6:Value→VP) (ρ:Env) (w:World):(b17 R C6 (ρ 4) (ρ 6) (ρ 7) (ρ 8) (ρ 49) w)=codeP Tryd.prog (pan R) p9 (q6 R C6) ρ w:=by kernel_rfl
theorem b17_ok (R:EP) (C6:Value→VP) (ρ:Env) (w:World) (h:b17 R C6 (ρ 4) (ρ 6) (ρ 7) (ρ 8) (ρ 49) w):codeP Tryd.prog (pan R) p9 (q6 R C6) ρ w:=(b17_eq R C6 ρ w).mp h
def b16_1 (R:EP) (C6:Value→VP) (x4 x6 x7 x8:Value) (w16:World) (_r:Tok R:=tok R) (_C6:Tok C6:=tok C6):Prop :=
 RUN Tryd.prog (pan R) (bins .add 3 (.tmp 43) (.const (Go.Value.int Go.IntKind.i64 1)) x8 (Go.Value.int Go.IntKind.i64 1)) w16 fun v17 w18 =>
 RUN Tryd.prog (pan R) (Instr.indexAt 41 x4 v17) w18 fun v19 w20 =>
 RUN Tryd.prog (pan R) (Instr.fieldAt 46 v19 1) w20 fun v21 w22 =>
 RUN Tryd.prog (pan R) (Instr.loadAt 9 v21) w22 fun v23 w24 =>
 RUN Tryd.prog (pan R) (bins .eql 9 (.tmp 47) (.const (Go.Value.string {data:=#[58] })) v23 (Go.Value.string {data:=#[58] })) w24 fun v25 w26 =>
 b17 R C6 x4 x6 x7 x8 v25 w26
def b16_2 (R:EP) (C6:Value→VP) (x4 x6 x7 x8:Value) (w6:World) (_r:Tok R:=tok R) (_C6:Tok C6:=tok C6):Prop :=
 RUN Tryd.prog (pan R) (bins .add 3 (.tmp 34) (.const (Go.Value.int Go.IntKind.i64 1)) x8 (Go.Value.int Go.IntKind.i64 1)) w6 fun v7 w8 =>
 RUN Tryd.prog (pan R) (Instr.indexAt 41 x4 v7) w8 fun v9 w10 =>
 RUN Tryd.prog (pan R) (Instr.fieldAt 46 v9 0) w10 fun v11 w12 =>
 RUN Tryd.prog (pan R) (Instr.loadAt 3 v11) w12 fun v13 w14 =>
 RUN Tryd.prog (pan R) (bins .eql 3 (.tmp 38) (.const (Go.Value.int Go.IntKind.i64 4)) v13 (Go.Value.int Go.IntKind.i64 4)) w14 fun v15 w16 =>
 SPL v15
 (b16_1 R C6 x4 x6 x7 x8 w16)
 (b17 R C6 x4 x6 x7 x8 (Go.Value.bool Bool.false) w16)

def b16 (R:EP) (C6:Value→VP) (x4 x6 x7 x8:Value) (w:World) (_r:Tok R:=tok R) (_C6:Tok C6:=tok C6):Prop :=
 RUN Tryd.prog (pan R) (bins .add 3 (.tmp 27) (.const (Go.Value.int Go.IntKind.i64 1)) x8 (Go.Value.int Go.IntKind.i64 1)) w fun v1 w2 =>
 RUN Tryd.prog (pan R) (Builtin.len_ #[41] 3 #[x4]) w2 fun v3 w4 =>
 RUN Tryd.prog (pan R) (bins .lss 3 (.tmp 28) (.tmp 30) v1 v3) w4 fun v5 w6 =>
 SPL v5
 (b16_2 R C6 x4 x6 x7 x8 w6)
 (b17 R C6 x4 x6 x7 x8 (Go.Value.bool Bool.false) w6)
abbrev q7 (R:EP) (C6:Value→VP):XP:=QX (fun ρ w=>b17 R C6 (ρ 4) (ρ 6) (ρ 7) (ρ 8) (ρ 49) w) (fun ρ w=>R (.returned (ρ 2)) w) [(2,(fun ρ w=>b9 R C6 (ρ 6) (ρ 8) w)),(0,(fun ρ w=>b3 R (ρ 0) (ρ 3) (ρ 6) w))]
theorem b16_eq (R:EP) (C6:Value→VP) (ρ:Env) (w:World):(b16 R C6 (ρ 4) (ρ 6) (ρ 7) (ρ 8) w)=codeP Tryd.prog (pan R) (preC 0 (fstC p5)) (q7 R C6) ρ w:=by kernel_rfl
theorem b16_ok (R:EP) (C6:Value→VP) (ρ:Env) (w:World) (h:b16 R C6 (ρ 4) (ρ 6) (ρ 7) (ρ 8) w):codeP Tryd.prog (pan R) (fstC p5) (q6 R C6) ρ w:=by
 have e:appC 0 (preC 0 (fstC p5)) (dropC 1 (fstC p5))=(fstC p5):=by kernel_rfl
 rw [←e]
 exact appQ (fun ρ w=>b17 R C6 (ρ 4) (ρ 6) (ρ 7) (ρ 8) (ρ 49) w) 0 ((b16_eq R C6 ρ w).mp h) (fun ρ w h=>b17_ok R C6 ρ w h)
theorem k11_ok (R:EP) (C6:Value→VP) (ρ:Env) (w:World) (h:b16 R C6 (ρ 4) (ρ 6) (ρ 7) (ρ 8) w):codeP Tryd.prog (pan R) p5 (q3 R C6) ρ w:=by
 have e:Code.seq (fstC p5) (sndC p5)=p5:=by kernel_rfl
 rw [←e]
 exact seqQ (fun ρ w=>b14 R C6 (ρ 4) (ρ 6) (ρ 7) (ρ 8) w) (b16_ok R C6 ρ w h) (fun ρ w h=>k12_ok R C6 ρ w h)
abbrev q8 (R:EP) (C6:Value→VP):XP:=QX (fun ρ w=>b9 R C6 (ρ 6) (ρ 8) w) (fun ρ w=>R (.returned (ρ 2)) w) [(0,(fun ρ w=>b3 R (ρ 0) (ρ 3) (ρ 6) w))]
theorem k10_ok (R:EP) (C6:Value→VP) (ρ:Env) (w:World) (h:b16 R C6 (ρ 4) (ρ 6) (ρ 7) (ρ 8) w):codeP Tryd.prog (pan R) (fstC p4) (q8 R C6) ρ w:=by
 have e:Code.block 1 (blkC (fstC p4))=(fstC p4):=by kernel_rfl
 rw [←e]
 exact blockQ (k11_ok R C6 ρ w h)
theorem k8_ok (R:EP) (C6:Value→VP) (ρ:Env) (w:World) (h:b16 R C6 (ρ 4) (ρ 6) (ρ 7) (ρ 8) w):codeP Tryd.prog (pan R) p4 (q2 R C6) ρ w:=by
 have e:Code.seq (fstC p4) (sndC p4)=p4:=by kernel_rfl
 rw [←e]
 exact seqQ (fun ρ w=>b9 R C6 (ρ 6) (ρ 8) w) (k10_ok R C6 ρ w h) (fun ρ w h=>b9_ok R C6 ρ w h)

def b7 (R:EP) (C6:Value→VP) (x0 x3 x4 x6 x7 x8:Value) (w:World) (_r:Tok R:=tok R) (_C6:Tok C6:=tok C6):Prop :=
 RUN Tryd.prog (pan R) (Builtin.len_ #[41] 3 #[x4]) w fun v1 w2 =>
 RUN Tryd.prog (pan R) (bins .lss 3 (.tmp 21) (.tmp 23) x8 v1) w2 fun v3 w4 =>
 SPL v3
 (b16 R C6 x4 x6 x7 x8 w4)
 (b3 R x0 x3 x6 w4)
abbrev q9 (R:EP) (C6:Value→VP):XP:=QX (fun ρ w=>b16 R C6 (ρ 4) (ρ 6) (ρ 7) (ρ 8) w) (fun ρ w=>R (.returned (ρ 2)) w) [(0,(fun ρ w=>b3 R (ρ 0) (ρ 3) (ρ 6) w))]
theorem b7_eq (R:EP) (C6:Value→VP) (ρ:Env) (w:World):(b7 R C6 (ρ 0) (ρ 3) (ρ 4) (ρ 6) (ρ 7) (ρ 8) w)=codeP Tryd.prog (pan R) (preC 0 p3) (q9 R C6) ρ w:=by kernel_rfl
theorem b7_ok (R:EP) (C6:Value→VP) (ρ:Env) (w:World) (h:b7 R C6 (ρ 0) (ρ 3) (ρ 4) (ρ 6) (ρ 7) (ρ 8) w):codeP Tryd.prog (pan R) p3 (q2 R C6) ρ w:=by
 have e:appC 0 (preC 0 p3) (dropC 1 p3)=p3:=by kernel_rfl
 rw [←e]
 exact appQ (fun ρ w=>b16 R C6 (ρ 4) (ρ 6) (ρ 7) (ρ 8) w) 0 ((b7_eq R C6 ρ w).mp h) (fun ρ w h=>k8_ok R C6 ρ w h)

def l6 (R:EP) (x0 x3 x4 x6 x7 x8:Value) (w:World) (_r:Tok R:=tok R):Prop :=
 ∃(J:Value→VP) (μ:Value→Value→World→Nat),J x6 x8 w∧∀y6 y8 w0,J y6 y8 w0→b7 R (fun z6 z8 w1=>J z6 z8 w1∧μ z6 z8 w1<μ y6 y8 w0) x0 x3 x4 y6 x7 y8 w0
abbrev q10 (R:EP):XP:=QX (fun ρ w=>b3 R (ρ 0) (ρ 3) (ρ 6) w) (fun ρ w=>R (.returned (ρ 2)) w) [(0,(fun ρ w=>b3 R (ρ 0) (ρ 3) (ρ 6) w))]
theorem l6_ok (R:EP) (ρ:Env) (w:World) (h:l6 R (ρ 0) (ρ 3) (ρ 4) (ρ 6) (ρ 7) (ρ 8) w):codeP Tryd.prog (pan R) (blkC p2) (q10 R) ρ w:=by
 unfold l6 at h
 obtain ⟨J,μ,h0,hr⟩:=h
 have e:Code.loop (loopC (blkC p2))=(blkC p2):=by kernel_rfl
 rw [←e]
 refine loopQ (fun ρ' w'=>J (ρ' 6) (ρ' 8) w') (fun ρ' w'=>μ (ρ' 6) (ρ' 8) w') h0 fun ρ' w' hA hI=>?_
 have e0:ρ' 0=ρ 0:=Agree.at hA 0 (by kernel_rfl)
 have e3:ρ' 3=ρ 3:=Agree.at hA 3 (by kernel_rfl)
 have e4:ρ' 4=ρ 4:=Agree.at hA 4 (by kernel_rfl)
 have e7:ρ' 7=ρ 7:=Agree.at hA 7 (by kernel_rfl)
 have h1:=hr (ρ' 6) (ρ' 8) w' hI
 rw [←e0,←e3,←e4,←e7] at h1
 exact b7_ok R (fun z6 z8 w1=>J z6 z8 w1∧μ z6 z8 w1<μ (ρ' 6) (ρ' 8) w') ρ' w' h1
theorem l6_intro (R:EP) (x0 x3 x4 x6 x7 x8:Value) (w:World) (J:Value→VP) (μ:Value→Value→World→Nat) (h0:J x6 x8 w)
  (hr:∀y6 y8 w0,J y6 y8 w0→∀C6:Value→VP,(∀z6 z8 w1,J z6 z8 w1→μ z6 z8 w1<μ y6 y8 w0→C6 z6 z8 w1)→b7 R C6 x0 x3 x4 y6 x7 y8 w0):l6 R x0 x3 x4 x6 x7 x8 w:=by
 unfold l6
 exact ⟨J,μ,h0,fun y6 y8 w0 hJ=>hr y6 y8 w0 hJ _ (fun z6 z8 w1 h1 h2=>⟨h1,h2⟩)⟩
abbrev q11 (R:EP):XP:=QX (fun ρ w=>b3 R (ρ 0) (ρ 3) (ρ 6) w) (fun ρ w=>R (.returned (ρ 2)) w) []
theorem k5_ok (R:EP) (ρ:Env) (w:World) (h:l6 R (ρ 0) (ρ 3) (ρ 4) (ρ 6) (ρ 7) (ρ 8) w):codeP Tryd.prog (pan R) p2 (q11 R) ρ w:=by
 have e:Code.block 0 (blkC p2)=p2:=by kernel_rfl
 rw [←e]
 exact blockQ (l6_ok R ρ w h)

def b4 (R:EP) (x0 x3 x4 x6 x7:Value) (w:World) (_r:Tok R:=tok R):Prop :=
 l6 R x0 x3 x4 x6 x7 (Go.Value.int Go.IntKind.i64 0) w
abbrev q12 (R:EP):XP:=QX (fun ρ w=>l6 R (ρ 0) (ρ 3) (ρ 4) (ρ 6) (ρ 7) (ρ 8) w) (fun ρ w=>R (.returned (ρ 2)) w) []
theorem b4_eq (R:EP) (ρ:Env) (w:World):(b4 R (ρ 0) (ρ 3) (ρ 4) (ρ 6) (ρ 7) w)=codeP Tryd.prog (pan R) (preC 0 (fstC p1)) (q12 R) ρ w:=by kernel_rfl
theorem b4_ok (R:EP) (ρ:Env) (w:World) (h:b4 R (ρ 0) (ρ 3) (ρ 4) (ρ 6) (ρ 7) w):codeP Tryd.prog (pan R) (fstC p1) (q11 R) ρ w:=by
 have e:appC 0 (preC 0 (fstC p1)) (dropC 1 (fstC p1))=(fstC p1):=by kernel_rfl
 rw [←e]
 exact appQ (fun ρ w=>l6 R (ρ 0) (ρ 3) (ρ 4) (ρ 6) (ρ 7) (ρ 8) w) 0 ((b4_eq R ρ w).mp h) (fun ρ w h=>k5_ok R ρ w h)
theorem k2_ok (R:EP) (ρ:Env) (w:World) (h:b4 R (ρ 0) (ρ 3) (ρ 4) (ρ 6) (ρ 7) w):codeP Tryd.prog (pan R) p1 (q1 R) ρ w:=by
 have e:Code.seq (fstC p1) (sndC p1)=p1:=by kernel_rfl
 rw [←e]
 exact seqQ (fun ρ w=>b3 R (ρ 0) (ρ 3) (ρ 6) w) (b4_ok R ρ w h) (fun ρ w h=>b3_ok R ρ w h)
def b1_1 (R:EP) (x0 v1 v5:Value) (w10:World) (_r:Tok R:=tok R):Prop :=
 RUN Tryd.prog (pan R) (Instr.build 46 #[]) w10 fun v11 w12 =>
 RUN Tryd.prog (pan R) (Instr.alloc 46 true (.tuple #[])) w12 fun v13 w14 =>
 RUNU Tryd.prog (pan R) (Instr.storeAt 46 v13 v11) w14 fun w15 =>
 b4 R x0 v1 v5 (Go.Value.slice Option.none 0 0) v13 w15
def b1_2 (R:EP) (x0 v1 v3:Value) (w4:World) (_r:Tok R:=tok R):Prop :=
 RUN Tryd.prog (pan R) (Instr.extract v3 0) w4 fun v5 w6 =>
 RUN Tryd.prog (pan R) (Instr.extract v3 1) w6 fun v7 w8 =>
 RUN Tryd.prog (pan R) (Op.unary .not v7) w8 fun v9 w10 =>
 SPL v9
 (R (.returned v1) w10)
 (b1_1 R x0 v1 v5 w10)

def b1 (R:EP) (x0:Value) (w:World) (_r:Tok R:=tok R):Prop :=
 CALL Tryd.prog (pan R) law04_awake.id #[] w fun v1 w2 =>
 CALL Tryd.prog (pan R) law04_good.id #[x0,(Go.Value.int Go.IntKind.i64 4096)] w2 fun v3 w4 =>
 b1_2 R x0 v1 v3 w4
abbrev q13 (R:EP):XP:=QX (fun ρ w=>b4 R (ρ 0) (ρ 3) (ρ 4) (ρ 6) (ρ 7) w) (fun ρ w=>R (.returned (ρ 2)) w) []
theorem b1_eq (R:EP) (ρ:Env) (w:World):(b1 R (ρ 0) w)=codeP Tryd.prog (pan R) (preC 5 code) (q13 R) ρ w:=by kernel_rfl
theorem b1_ok (R:EP) (ρ:Env) (w:World) (h:b1 R (ρ 0) w):codeP Tryd.prog (pan R) code (q1 R) ρ w:=by
 have e:appC 5 (preC 5 code) (dropC 6 code)=code:=by kernel_rfl
 rw [←e]
 exact appQ (fun ρ w=>b4 R (ρ 0) (ρ 3) (ρ 4) (ρ 6) (ρ 7) w) 5 ((b1_eq R ρ w).mp h) (fun ρ w h=>k2_ok R ρ w h)
/-- What is owed for a call. -/
def run (R:EP) (a0:Value) (w:World):Prop:=b1 R a0 w
theorem calls (R:EP) (a0:Value) (w:World) (h:run R a0 w):Calls Tryd.prog id #[a0] w R :=
 calls_of_t (f:=id) (fn:=Tryd.f7) (c:=code) (by kernel_rfl) Tryd.func7 (by kernel_rfl) (by kernel_rfl) (args:=[a0]) (Nat.le_of_ble_eq_true rfl) rfl (b1_ok R (envOf [a0]) w h)
theorem enters:Enters Tryd.prog id:=fun args w=>Tryd.call7 args w
theorem ct {a0:Value} {w:World} {S:VP} (h:∀R:EP,(∀v w,S v w→R (.returned v) w)→run R a0 w):Ct Tryd.prog id #[a0] w S :=
 Ct.intro enters fun R hR=>calls R a0 w (h R hR)
attribute [irreducible] b3_1 b3 b9 b13 b15_1 b15 b14_1 b14 b17_1 b17 b16_1 b16_2 b16 b7 l6 b4 b1_1 b1_2 b1 run
attribute [go_sem] b3_1 b3 b9 b13 b15_1 b15 b14_1 b14 b17_1 b17 b16_1 b16_2 b16 b7 b4 b1_1 b1_2 b1 run
end law04_SpecRows

/-! ### presage/presagelaw04.awake -/
namespace law04_awake
noncomputable def code:Code:=bodyOf Tryd.f11
def b1_1 (R:EP) (w58:World) (_r:Tok R:=tok R):Prop :=
 CALL Tryd.prog (pan R) spec_Bad.id #[(Go.Value.string {data:=#[] })] w58 fun v59 w60 =>
 RUN Tryd.prog (pan R) (bins .eql 3 (.tmp 39) (.const (Go.Value.int Go.IntKind.i64 0)) v59 (Go.Value.int Go.IntKind.i64 0)) w60 fun v61 w62 =>
 R (.returned v61) w62
def b1_2 (R:EP) (v21:Value) (w52:World) (_r:Tok R:=tok R):Prop :=
 RUN Tryd.prog (pan R) (Instr.fieldAt 31 v21 1) w52 fun v53 w54 =>
 RUN Tryd.prog (pan R) (Instr.loadAt 3 v53) w54 fun v55 w56 =>
 RUN Tryd.prog (pan R) (bins .eql 3 (.tmp 35) (.const (Go.Value.int Go.IntKind.i64 3)) v55 (Go.Value.int Go.IntKind.i64 3)) w56 fun v57 w58 =>
 SPL v57
 (b1_1 R w58)
 (R (.returned (Go.Value.bool Bool.false)) w58)
def b1_3 (R:EP) (v21:Value) (w46:World) (_r:Tok R:=tok R):Prop :=
 RUN Tryd.prog (pan R) (Instr.fieldAt 31 v21 0) w46 fun v47 w48 =>
 RUN Tryd.prog (pan R) (Instr.loadAt 29 v47) w48 fun v49 w50 =>
 RUN Tryd.prog (pan R) (bins .eql 29 (.tmp 30) (.const (Go.Value.int Go.IntKind.i64 10)) v49 (Go.Value.int Go.IntKind.i64 10)) w50 fun v51 w52 =>
 SPL v51
 (b1_2 R v21 w52)
 (R (.returned (Go.Value.bool Bool.false)) w52)
def b1_4 (R:EP) (v7 v21:Value) (w38:World) (_r:Tok R:=tok R):Prop :=
 RUN Tryd.prog (pan R) (Instr.fieldAt 28 v7 0) w38 fun v39 w40 =>
 RUN Tryd.prog (pan R) (Instr.loadAt 23 v39) w40 fun v41 w42 =>
 RUN Tryd.prog (pan R) (Builtin.len_ #[23] 3 #[v41]) w42 fun v43 w44 =>
 RUN Tryd.prog (pan R) (bins .eql 3 (.tmp 25) (.const (Go.Value.int Go.IntKind.i64 3)) v43 (Go.Value.int Go.IntKind.i64 3)) w44 fun v45 w46 =>
 SPL v45
 (b1_3 R v21 w46)
 (R (.returned (Go.Value.bool Bool.false)) w46)
def b1_5 (R:EP) (v7 v21:Value) (w30:World) (_r:Tok R:=tok R):Prop :=
 RUN Tryd.prog (pan R) (Instr.fieldAt 28 v7 4) w30 fun v31 w32 =>
 RUN Tryd.prog (pan R) (Instr.loadAt 26 v31) w32 fun v33 w34 =>
 RUN Tryd.prog (pan R) (Builtin.len_ #[26] 3 #[v33]) w34 fun v35 w36 =>
 RUN Tryd.prog (pan R) (bins .eql 3 (.tmp 19) (.const (Go.Value.int Go.IntKind.i64 2)) v35 (Go.Value.int Go.IntKind.i64 2)) w36 fun v37 w38 =>
 SPL v37
 (b1_4 R v7 v21 w38)
 (R (.returned (Go.Value.bool Bool.false)) w38)
def b1_6 (R:EP) (v7 v9 v13:Value) (w14:World) (_r:Tok R:=tok R):Prop :=
 RUN Tryd.prog (pan R) (Instr.extract v13 0) w14 fun v15 w16 =>
 RUN Tryd.prog (pan R) (Instr.extract v13 1) w16 fun v17 w18 =>
 RUN Tryd.prog (pan R) (Instr.alloc 28 true (.tuple #[])) w18 fun v19 w20 =>
 RUN Tryd.prog (pan R) (Instr.alloc 31 true (.tuple #[])) w20 fun v21 w22 =>
 RUNU Tryd.prog (pan R) (Instr.storeAt 28 v19 v15) w22 fun w23 =>
 RUNU Tryd.prog (pan R) (Instr.storeAt 31 v21 v17) w23 fun w24 =>
 RUN Tryd.prog (pan R) (Instr.fieldAt 31 v9 0) w24 fun v25 w26 =>
 RUN Tryd.prog (pan R) (Instr.loadAt 29 v25) w26 fun v27 w28 =>
 RUN Tryd.prog (pan R) (bins .eql 29 (.tmp 14) (.const (Go.Value.int Go.IntKind.i64 0)) v27 (Go.Value.int Go.IntKind.i64 0)) w28 fun v29 w30 =>
 SPL v29
 (b1_5 R v7 v21 w30)
 (R (.returned (Go.Value.bool Bool.false)) w30)
def b1_7 (R:EP) (v1:Value) (w2:World) (_r:Tok R:=tok R):Prop :=
 RUN Tryd.prog (pan R) (Instr.extract v1 0) w2 fun v3 w4 =>
 RUN Tryd.prog (pan R) (Instr.extract v1 1) w4 fun v5 w6 =>
 RUN Tryd.prog (pan R) (Instr.alloc 28 true (.tuple #[])) w6 fun v7 w8 =>
 RUN Tryd.prog (pan R) (Instr.alloc 31 true (.tuple #[])) w8 fun v9 w10 =>
 RUNU Tryd.prog (pan R) (Instr.storeAt 28 v7 v3) w10 fun w11 =>
 RUNU Tryd.prog (pan R) (Instr.storeAt 31 v9 v5) w11 fun w12 =>
 CALL Tryd.prog (pan R) spec_Read.id #[(Go.Value.string {data:=#[115,32,58] })] w12 fun v13 w14 =>
 b1_6 R v7 v9 v13 w14

def b1 (R:EP) (w:World) (_r:Tok R:=tok R):Prop :=
 CALL Tryd.prog (pan R) spec_Read.id #[(Go.Value.string {data:=#[101,32,58,32,101,32,39,43,39,32,110,32,124,32,110,32,59] })] w fun v1 w2 =>
 b1_7 R v1 w2
abbrev q1 (R:EP):XP:=QX (fun ρ w=>R (.returned (ρ 0)) w) (fun ρ w=>R (.returned (ρ 0)) w) []
theorem b1_eq (R:EP) (ρ:Env) (w:World):(b1 R w)=codeP Tryd.prog (pan R) code (q1 R) ρ w:=by kernel_rfl
theorem b1_ok (R:EP) (ρ:Env) (w:World) (h:b1 R w):codeP Tryd.prog (pan R) code (q1 R) ρ w:=(b1_eq R ρ w).mp h
/-- What is owed for a call. -/
def run (R:EP) (w:World):Prop:=b1 R w
theorem calls (R:EP) (w:World) (h:run R w):Calls Tryd.prog id #[] w R :=
 calls_of_t (f:=id) (fn:=Tryd.f11) (c:=code) (by kernel_rfl) Tryd.func11 (by kernel_rfl) (by kernel_rfl) (args:=[]) (Nat.le_of_ble_eq_true rfl) rfl (b1_ok R (envOf []) w h)
theorem enters:Enters Tryd.prog id:=fun args w=>Tryd.call11 args w
theorem ct {w:World} {S:VP} (h:∀R:EP,(∀v w,S v w→R (.returned v) w)→run R w):Ct Tryd.prog id #[] w S :=
 Ct.intro enters fun R hR=>calls R w (h R hR)
attribute [irreducible] b1_1 b1_2 b1_3 b1_4 b1_5 b1_6 b1_7 b1 run
attribute [go_sem] b1_1 b1_2 b1_3 b1_4 b1_5 b1_6 b1_7 b1 run
end law04_awake

/-! ### presage/presagelaw04.written -/
namespace law04_written
noncomputable def code:Code:=bodyOf Tryd.f19
def b1_1 (R:EP) (v1:Value) (w8:World) (_r:Tok R:=tok R):Prop :=
 RUN Tryd.prog (pan R) (Instr.fieldAt 46 v1 1) w8 fun v9 w10 =>
 RUN Tryd.prog (pan R) (Instr.loadAt 9 v9) w10 fun v11 w12 =>
 RUN Tryd.prog (pan R) (bins .add 9 (.const (Go.Value.string {data:=#[39] })) (.tmp 7) (Go.Value.string {data:=#[39] }) v11) w12 fun v13 w14 =>
 RUN Tryd.prog (pan R) (bins .add 9 (.tmp 8) (.const (Go.Value.string {data:=#[39] })) v13 (Go.Value.string {data:=#[39] })) w14 fun v15 w16 =>
 R (.returned v15) w16
def b1_2 (R:EP) (v1:Value) (w8:World) (_r:Tok R:=tok R):Prop :=
 RUN Tryd.prog (pan R) (Instr.fieldAt 46 v1 1) w8 fun v17 w18 =>
 RUN Tryd.prog (pan R) (Instr.loadAt 9 v17) w18 fun v19 w20 =>
 R (.returned v19) w20
def b1 (R:EP) (x0:Value) (w:World) (_r:Tok R:=tok R):Prop :=
 RUN Tryd.prog (pan R) (Instr.box 46 x0) w fun v1 w2 =>
 RUN Tryd.prog (pan R) (Instr.fieldAt 46 v1 0) w2 fun v3 w4 =>
 RUN Tryd.prog (pan R) (Instr.loadAt 3 v3) w4 fun v5 w6 =>
 RUN Tryd.prog (pan R) (bins .eql 3 (.tmp 4) (.const (Go.Value.int Go.IntKind.i64 2)) v5 (Go.Value.int Go.IntKind.i64 2)) w6 fun v7 w8 =>
 SPL v7
 (b1_1 R v1 w8)
 (b1_2 R v1 w8)
abbrev q1 (R:EP):XP:=QX (fun ρ w=>R (.returned (ρ 2)) w) (fun ρ w=>R (.returned (ρ 2)) w) []
theorem b1_eq (R:EP) (ρ:Env) (w:World):(b1 R (ρ 0) w)=codeP Tryd.prog (pan R) code (q1 R) ρ w:=by kernel_rfl
theorem b1_ok (R:EP) (ρ:Env) (w:World) (h:b1 R (ρ 0) w):codeP Tryd.prog (pan R) code (q1 R) ρ w:=(b1_eq R ρ w).mp h
/-- What is owed for a call. -/
def run (R:EP) (a0:Value) (w:World):Prop:=b1 R a0 w
theorem calls (R:EP) (a0:Value) (w:World) (h:run R a0 w):Calls Tryd.prog id #[a0] w R :=
 calls_of_t (f:=id) (fn:=Tryd.f19) (c:=code) (by kernel_rfl) Tryd.func19 (by kernel_rfl) (by kernel_rfl) (args:=[a0]) (Nat.le_of_ble_eq_true rfl) rfl (b1_ok R (envOf [a0]) w h)
theorem enters:Enters Tryd.prog id:=fun args w=>Tryd.call19 args w
theorem ct {a0:Value} {w:World} {S:VP} (h:∀R:EP,(∀v w,S v w→R (.returned v) w)→run R a0 w):Ct Tryd.prog id #[a0] w S :=
 Ct.intro enters fun R hR=>calls R a0 w (h R hR)
attribute [irreducible] b1_1 b1_2 b1 run
attribute [go_sem] b1_1 b1_2 b1 run
end law04_written

/-! ### presage/presagelaw04.good -/
namespace law04_good
noncomputable def code:Code:=bodyOf Tryd.f21
noncomputable abbrev p1:Code:=dropC 3 code
def b3_1 (R:EP) (x1 x6 x8:Value) (w6:World) (_r:Tok R:=tok R):Prop :=
 RUN Tryd.prog (pan R) (bins .add 3 (.tmp 39) (.tmp 40) x8 x1) w6 fun v7 w8 =>
 RUN Tryd.prog (pan R) (bins .leq 3 (.tmp 41) (.const (Go.Value.int Go.IntKind.i64 8192)) v7 (Go.Value.int Go.IntKind.i64 8192)) w8 fun v9 w10 =>
 R (.returned (.tuple #[x6,v9])) w10
def b3_2 (R:EP) (x0 x1 x6 x8:Value) (w2:World) (_r:Tok R:=tok R):Prop :=
 CALL Tryd.prog (pan R) spec_Bad.id #[x0] w2 fun v3 w4 =>
 RUN Tryd.prog (pan R) (bins .lss 3 (.tmp 35) (.const (Go.Value.int Go.IntKind.i64 0)) v3 (Go.Value.int Go.IntKind.i64 0)) w4 fun v5 w6 =>
 SPL v5
 (b3_1 R x1 x6 x8 w6)
 (R (.returned (.tuple #[x6,(Go.Value.bool Bool.false)])) w6)
def b3 (R:EP) (x0 x1 x6 x7 x8:Value) (w:World) (_r:Tok R:=tok R):Prop :=
 RUN Tryd.prog (pan R) (bins .lss 3 (.tmp 31) (.const (Go.Value.int Go.IntKind.i64 0)) x7 (Go.Value.int Go.IntKind.i64 0)) w fun v1 w2 =>
 SPL v1
 (b3_2 R x0 x1 x6 x8 w2)
 (R (.returned (.tuple #[x6,(Go.Value.bool Bool.false)])) w2)
abbrev q1 (R:EP):XP:=QX (fun ρ w=>R (.returned (.tuple #[(ρ 4),(ρ 5)])) w) (fun ρ w=>R (.returned (.tuple #[(ρ 4),(ρ 5)])) w) []
theorem b3_eq (R:EP) (ρ:Env) (w:World):(b3 R (ρ 0) (ρ 1) (ρ 6) (ρ 7) (ρ 8) w)=codeP Tryd.prog (pan R) (sndC p1) (q1 R) ρ w:=by kernel_rfl
theorem b3_ok (R:EP) (ρ:Env) (w:World) (h:b3 R (ρ 0) (ρ 1) (ρ 6) (ρ 7) (ρ 8) w):codeP Tryd.prog (pan R) (sndC p1) (q1 R) ρ w:=(b3_eq R ρ w).mp h
noncomputable abbrev p2:Code:=dropC 1 (fstC p1)
noncomputable abbrev p3:Code:=loopC (blkC p2)
def b7_1 (R:EP) (C6:Value→VP) (x6 x8 x9:Value) (w4:World) (_r:Tok R:=tok R) (_C6:Tok C6:=tok C6):Prop :=
 RUN Tryd.prog (pan R) (Instr.indexAt 41 x6 x9) w4 fun v5 w6 =>
 RUN Tryd.prog (pan R) (Instr.fieldAt 46 v5 1) w6 fun v7 w8 =>
 RUN Tryd.prog (pan R) (Instr.loadAt 9 v7) w8 fun v9 w10 =>
 RUN Tryd.prog (pan R) (Builtin.len_ #[9] 3 #[v9]) w10 fun v11 w12 =>
 RUN Tryd.prog (pan R) (bins .add 3 (.tmp 21) (.tmp 27) x8 v11) w12 fun v13 w14 =>
 RUN Tryd.prog (pan R) (bins .add 3 (.tmp 28) (.const (Go.Value.int Go.IntKind.i64 3)) v13 (Go.Value.int Go.IntKind.i64 3)) w14 fun v15 w16 =>
 RUN Tryd.prog (pan R) (bins .add 3 (.tmp 19) (.const (Go.Value.int Go.IntKind.i64 1)) x9 (Go.Value.int Go.IntKind.i64 1)) w16 fun v17 w18 =>
 C6 v15 v17 w18
def b7 (R:EP) (C6:Value→VP) (x0 x1 x6 x7 x8 x9:Value) (w:World) (_r:Tok R:=tok R) (_C6:Tok C6:=tok C6):Prop :=
 RUN Tryd.prog (pan R) (Builtin.len_ #[41] 3 #[x6]) w fun v1 w2 =>
 RUN Tryd.prog (pan R) (bins .lss 3 (.tmp 15) (.tmp 17) x9 v1) w2 fun v3 w4 =>
 SPL v3
 (b7_1 R C6 x6 x8 x9 w4)
 (b3 R x0 x1 x6 x7 x8 w4)
abbrev q2 (R:EP) (C6:Value→VP):XP:=QX (fun ρ w=>C6 (ρ 8) (ρ 9) w) (fun ρ w=>R (.returned (.tuple #[(ρ 4),(ρ 5)])) w) [(0,(fun ρ w=>b3 R (ρ 0) (ρ 1) (ρ 6) (ρ 7) (ρ 8) w))]
theorem b7_eq (R:EP) (C6:Value→VP) (ρ:Env) (w:World):(b7 R C6 (ρ 0) (ρ 1) (ρ 6) (ρ 7) (ρ 8) (ρ 9) w)=codeP Tryd.prog (pan R) p3 (q2 R C6) ρ w:=by kernel_rfl
theorem b7_ok (R:EP) (C6:Value→VP) (ρ:Env) (w:World) (h:b7 R C6 (ρ 0) (ρ 1) (ρ 6) (ρ 7) (ρ 8) (ρ 9) w):codeP Tryd.prog (pan R) p3 (q2 R C6) ρ w:=(b7_eq R C6 ρ w).mp h
def l6 (R:EP) (x0 x1 x6 x7 x8 x9:Value) (w:World) (_r:Tok R:=tok R):Prop :=
 ∃(J:Value→VP) (μ:Value→Value→World→Nat),J x8 x9 w∧∀y8 y9 w0,J y8 y9 w0→b7 R (fun z8 z9 w1=>J z8 z9 w1∧μ z8 z9 w1<μ y8 y9 w0) x0 x1 x6 x7 y8 y9 w0
abbrev q3 (R:EP):XP:=QX (fun ρ w=>b3 R (ρ 0) (ρ 1) (ρ 6) (ρ 7) (ρ 8) w) (fun ρ w=>R (.returned (.tuple #[(ρ 4),(ρ 5)])) w) [(0,(fun ρ w=>b3 R (ρ 0) (ρ 1) (ρ 6) (ρ 7) (ρ 8) w))]
theorem l6_ok (R:EP) (ρ:Env) (w:World) (h:l6 R (ρ 0) (ρ 1) (ρ 6) (ρ 7) (ρ 8) (ρ 9) w):codeP Tryd.prog (pan R) (blkC p2) (q3 R) ρ w:=by
 unfold l6 at h
 obtain ⟨J,μ,h0,hr⟩:=h
 have e:Code.loop (loopC (blkC p2))=(blkC p2):=by kernel_rfl
 rw [←e]
 refine loopQ (fun ρ' w'=>J (ρ' 8) (ρ' 9) w') (fun ρ' w'=>μ (ρ' 8) (ρ' 9) w') h0 fun ρ' w' hA hI=>?_
 have e0:ρ' 0=ρ 0:=Agree.at hA 0 (by kernel_rfl)
 have e1:ρ' 1=ρ 1:=Agree.at hA 1 (by kernel_rfl)
 have e6:ρ' 6=ρ 6:=Agree.at hA 6 (by kernel_rfl)
 have e7:ρ' 7=ρ 7:=Agree.at hA 7 (by kernel_rfl)
 have h1:=hr (ρ' 8) (ρ' 9) w' hI
 rw [←e0,←e1,←e6,←e7] at h1
 exact b7_ok R (fun z8 z9 w1=>J z8 z9 w1∧μ z8 z9 w1<μ (ρ' 8) (ρ' 9) w') ρ' w' h1
theorem l6_intro (R:EP) (x0 x1 x6 x7 x8 x9:Value) (w:World) (J:Value→VP) (μ:Value→Value→World→Nat) (h0:J x8 x9 w)
  (hr:∀y8 y9 w0,J y8 y9 w0→∀C6:Value→VP,(∀z8 z9 w1,J z8 z9 w1→μ z8 z9 w1<μ y8 y9 w0→C6 z8 z9 w1)→b7 R C6 x0 x1 x6 x7 y8 y9 w0):l6 R x0 x1 x6 x7 x8 x9 w:=by
 unfold l6
 exact ⟨J,μ,h0,fun y8 y9 w0 hJ=>hr y8 y9 w0 hJ _ (fun z8 z9 w1 h1 h2=>⟨h1,h2⟩)⟩
abbrev q4 (R:EP):XP:=QX (fun ρ w=>b3 R (ρ 0) (ρ 1) (ρ 6) (ρ 7) (ρ 8) w) (fun ρ w=>R (.returned (.tuple #[(ρ 4),(ρ 5)])) w) []
theorem k5_ok (R:EP) (ρ:Env) (w:World) (h:l6 R (ρ 0) (ρ 1) (ρ 6) (ρ 7) (ρ 8) (ρ 9) w):codeP Tryd.prog (pan R) p2 (q4 R) ρ w:=by
 have e:Code.block 0 (blkC p2)=p2:=by kernel_rfl
 rw [←e]
 exact blockQ (l6_ok R ρ w h)
def b4 (R:EP) (x0 x1 x6 x7 x8:Value) (w:World) (_r:Tok R:=tok R):Prop :=
 l6 R x0 x1 x6 x7 x8 (Go.Value.int Go.IntKind.i64 0) w
abbrev q5 (R:EP):XP:=QX (fun ρ w=>l6 R (ρ 0) (ρ 1) (ρ 6) (ρ 7) (ρ 8) (ρ 9) w) (fun ρ w=>R (.returned (.tuple #[(ρ 4),(ρ 5)])) w) []
theorem b4_eq (R:EP) (ρ:Env) (w:World):(b4 R (ρ 0) (ρ 1) (ρ 6) (ρ 7) (ρ 8) w)=codeP Tryd.prog (pan R) (preC 0 (fstC p1)) (q5 R) ρ w:=by kernel_rfl
theorem b4_ok (R:EP) (ρ:Env) (w:World) (h:b4 R (ρ 0) (ρ 1) (ρ 6) (ρ 7) (ρ 8) w):codeP Tryd.prog (pan R) (fstC p1) (q4 R) ρ w:=by
 have e:appC 0 (preC 0 (fstC p1)) (dropC 1 (fstC p1))=(fstC p1):=by kernel_rfl
 rw [←e]
 exact appQ (fun ρ w=>l6 R (ρ 0) (ρ 1) (ρ 6) (ρ 7) (ρ 8) (ρ 9) w) 0 ((b4_eq R ρ w).mp h) (fun ρ w h=>k5_ok R ρ w h)
theorem k2_ok (R:EP) (ρ:Env) (w:World) (h:b4 R (ρ 0) (ρ 1) (ρ 6) (ρ 7) (ρ 8) w):codeP Tryd.prog (pan R) p1 (q1 R) ρ w:=by
 have e:Code.seq (fstC p1) (sndC p1)=p1:=by kernel_rfl
 rw [←e]
 exact seqQ (fun ρ w=>b3 R (ρ 0) (ρ 1) (ρ 6) (ρ 7) (ρ 8) w) (b4_ok R ρ w h) (fun ρ w h=>b3_ok R ρ w h)
def b1_1 (R:EP) (x0 x1 v1:Value) (w2:World) (_r:Tok R:=tok R):Prop :=
 RUN Tryd.prog (pan R) (Instr.extract v1 0) w2 fun v3 w4 =>
 RUN Tryd.prog (pan R) (Instr.extract v1 1) w4 fun v5 w6 =>
 b4 R x0 x1 v3 v5 (Go.Value.int Go.IntKind.i64 0) w6
def b1 (R:EP) (x0 x1:Value) (w:World) (_r:Tok R:=tok R):Prop :=
 CALL Tryd.prog (pan R) ref03_All.id #[x0] w fun v1 w2 =>
 b1_1 R x0 x1 v1 w2
abbrev q6 (R:EP):XP:=QX (fun ρ w=>b4 R (ρ 0) (ρ 1) (ρ 6) (ρ 7) (ρ 8) w) (fun ρ w=>R (.returned (.tuple #[(ρ 4),(ρ 5)])) w) []
theorem b1_eq (R:EP) (ρ:Env) (w:World):(b1 R (ρ 0) (ρ 1) w)=codeP Tryd.prog (pan R) (preC 2 code) (q6 R) ρ w:=by kernel_rfl
theorem b1_ok (R:EP) (ρ:Env) (w:World) (h:b1 R (ρ 0) (ρ 1) w):codeP Tryd.prog (pan R) code (q1 R) ρ w:=by
 have e:appC 2 (preC 2 code) (dropC 3 code)=code:=by kernel_rfl
 rw [←e]
 exact appQ (fun ρ w=>b4 R (ρ 0) (ρ 1) (ρ 6) (ρ 7) (ρ 8) w) 2 ((b1_eq R ρ w).mp h) (fun ρ w h=>k2_ok R ρ w h)
/-- What is owed for a call. -/
def run (R:EP) (a0 a1:Value) (w:World):Prop:=b1 R a0 a1 w
theorem calls (R:EP) (a0 a1:Value) (w:World) (h:run R a0 a1 w):Calls Tryd.prog id #[a0,a1] w R :=
 calls_of_tt (f:=id) (fn:=Tryd.f21) (c:=code) (by kernel_rfl) Tryd.func21 (by kernel_rfl) (by kernel_rfl) (args:=[a0,a1]) (Nat.le_of_ble_eq_true rfl) rfl (b1_ok R (envOf [a0,a1]) w h)
theorem enters:Enters Tryd.prog id:=fun args w=>Tryd.call21 args w
theorem ct {a0 a1:Value} {w:World} {S:VP} (h:∀R:EP,(∀v w,S v w→R (.returned v) w)→run R a0 a1 w):Ct Tryd.prog id #[a0,a1] w S :=
 Ct.intro enters fun R hR=>calls R a0 a1 w (h R hR)
attribute [irreducible] b3_1 b3_2 b3 b7_1 b7 l6 b4 b1_1 b1 run
attribute [go_sem] b3_1 b3_2 b3 b7_1 b7 b4 b1_1 b1 run
end law04_good

/-! ### presage/presagelaw04.joined -/
namespace law04_joined
noncomputable def code:Code:=bodyOf Tryd.f22
noncomputable abbrev p1:Code:=dropC 2 code
def b3 (R:EP) (x3:Value) (w:World) (_r:Tok R:=tok R):Prop :=
 R (.returned x3) w
abbrev q1 (R:EP):XP:=QX (fun ρ w=>R (.returned (ρ 2)) w) (fun ρ w=>R (.returned (ρ 2)) w) []
theorem b3_eq (R:EP) (ρ:Env) (w:World):(b3 R (ρ 3) w)=codeP Tryd.prog (pan R) (sndC p1) (q1 R) ρ w:=by kernel_rfl
theorem b3_ok (R:EP) (ρ:Env) (w:World) (h:b3 R (ρ 3) w):codeP Tryd.prog (pan R) (sndC p1) (q1 R) ρ w:=(b3_eq R ρ w).mp h
noncomputable abbrev p2:Code:=dropC 1 (fstC p1)
noncomputable abbrev p3:Code:=loopC (blkC p2)
def b7_1 (R:EP) (C6:Value→VP) (x3 x4 v9:Value) (w10:World) (_r:Tok R:=tok R) (_C6:Tok C6:=tok C6):Prop :=
 RUN Tryd.prog (pan R) (bins .add 9 (.tmp 11) (.tmp 16) x3 v9) w10 fun v11 w12 =>
 RUN Tryd.prog (pan R) (bins .add 9 (.tmp 17) (.const (Go.Value.string {data:=#[32] })) v11 (Go.Value.string {data:=#[32] })) w12 fun v13 w14 =>
 RUN Tryd.prog (pan R) (bins .add 3 (.tmp 9) (.const (Go.Value.int Go.IntKind.i64 1)) x4 (Go.Value.int Go.IntKind.i64 1)) w14 fun v15 w16 =>
 C6 v13 v15 w16
def b7_2 (R:EP) (C6:Value→VP) (x0 x3 x4:Value) (w4:World) (_r:Tok R:=tok R) (_C6:Tok C6:=tok C6):Prop :=
 RUN Tryd.prog (pan R) (Instr.indexAt 41 x0 x4) w4 fun v5 w6 =>
 RUN Tryd.prog (pan R) (Instr.loadAt 46 v5) w6 fun v7 w8 =>
 CALL Tryd.prog (pan R) law04_written.id #[v7] w8 fun v9 w10 =>
 b7_1 R C6 x3 x4 v9 w10
def b7 (R:EP) (C6:Value→VP) (x0 x3 x4:Value) (w:World) (_r:Tok R:=tok R) (_C6:Tok C6:=tok C6):Prop :=
 RUN Tryd.prog (pan R) (Builtin.len_ #[41] 3 #[x0]) w fun v1 w2 =>
 RUN Tryd.prog (pan R) (bins .lss 3 (.tmp 5) (.tmp 7) x4 v1) w2 fun v3 w4 =>
 SPL v3
 (b7_2 R C6 x0 x3 x4 w4)
 (b3 R x3 w4)
abbrev q2 (R:EP) (C6:Value→VP):XP:=QX (fun ρ w=>C6 (ρ 3) (ρ 4) w) (fun ρ w=>R (.returned (ρ 2)) w) [(0,(fun ρ w=>b3 R (ρ 3) w))]
theorem b7_eq (R:EP) (C6:Value→VP) (ρ:Env) (w:World):(b7 R C6 (ρ 0) (ρ 3) (ρ 4) w)=codeP Tryd.prog (pan R) p3 (q2 R C6) ρ w:=by kernel_rfl
theorem b7_ok (R:EP) (C6:Value→VP) (ρ:Env) (w:World) (h:b7 R C6 (ρ 0) (ρ 3) (ρ 4) w):codeP Tryd.prog (pan R) p3 (q2 R C6) ρ w:=(b7_eq R C6 ρ w).mp h
def l6 (R:EP) (x0 x3 x4:Value) (w:World) (_r:Tok R:=tok R):Prop :=
 ∃(J:Value→VP) (μ:Value→Value→World→Nat),J x3 x4 w∧∀y3 y4 w0,J y3 y4 w0→b7 R (fun z3 z4 w1=>J z3 z4 w1∧μ z3 z4 w1<μ y3 y4 w0) x0 y3 y4 w0
abbrev q3 (R:EP):XP:=QX (fun ρ w=>b3 R (ρ 3) w) (fun ρ w=>R (.returned (ρ 2)) w) [(0,(fun ρ w=>b3 R (ρ 3) w))]
theorem l6_ok (R:EP) (ρ:Env) (w:World) (h:l6 R (ρ 0) (ρ 3) (ρ 4) w):codeP Tryd.prog (pan R) (blkC p2) (q3 R) ρ w:=by
 unfold l6 at h
 obtain ⟨J,μ,h0,hr⟩:=h
 have e:Code.loop (loopC (blkC p2))=(blkC p2):=by kernel_rfl
 rw [←e]
 refine loopQ (fun ρ' w'=>J (ρ' 3) (ρ' 4) w') (fun ρ' w'=>μ (ρ' 3) (ρ' 4) w') h0 fun ρ' w' hA hI=>?_
 have e0:ρ' 0=ρ 0:=Agree.at hA 0 (by kernel_rfl)
 have h1:=hr (ρ' 3) (ρ' 4) w' hI
 rw [←e0] at h1
 exact b7_ok R (fun z3 z4 w1=>J z3 z4 w1∧μ z3 z4 w1<μ (ρ' 3) (ρ' 4) w') ρ' w' h1
theorem l6_intro (R:EP) (x0 x3 x4:Value) (w:World) (J:Value→VP) (μ:Value→Value→World→Nat) (h0:J x3 x4 w)
  (hr:∀y3 y4 w0,J y3 y4 w0→∀C6:Value→VP,(∀z3 z4 w1,J z3 z4 w1→μ z3 z4 w1<μ y3 y4 w0→C6 z3 z4 w1)→b7 R C6 x0 y3 y4 w0):l6 R x0 x3 x4 w:=by
 unfold l6
 exact ⟨J,μ,h0,fun y3 y4 w0 hJ=>hr y3 y4 w0 hJ _ (fun z3 z4 w1 h1 h2=>⟨h1,h2⟩)⟩
abbrev q4 (R:EP):XP:=QX (fun ρ w=>b3 R (ρ 3) w) (fun ρ w=>R (.returned (ρ 2)) w) []
theorem k5_ok (R:EP) (ρ:Env) (w:World) (h:l6 R (ρ 0) (ρ 3) (ρ 4) w):codeP Tryd.prog (pan R) p2 (q4 R) ρ w:=by
 have e:Code.block 0 (blkC p2)=p2:=by kernel_rfl
 rw [←e]
 exact blockQ (l6_ok R ρ w h)
def b4 (R:EP) (x0 x3:Value) (w:World) (_r:Tok R:=tok R):Prop :=
 l6 R x0 x3 (Go.Value.int Go.IntKind.i64 0) w
abbrev q5 (R:EP):XP:=QX (fun ρ w=>l6 R (ρ 0) (ρ 3) (ρ 4) w) (fun ρ w=>R (.returned (ρ 2)) w) []
theorem b4_eq (R:EP) (ρ:Env) (w:World):(b4 R (ρ 0) (ρ 3) w)=codeP Tryd.prog (pan R) (preC 0 (fstC p1)) (q5 R) ρ w:=by kernel_rfl
theorem b4_ok (R:EP) (ρ:Env) (w:World) (h:b4 R (ρ 0) (ρ 3) w):codeP Tryd.prog (pan R) (fstC p1) (q4 R) ρ w:=by
 have e:appC 0 (preC 0 (fstC p1)) (dropC 1 (fstC p1))=(fstC p1):=by kernel_rfl
 rw [←e]
 exact appQ (fun ρ w=>l6 R (ρ 0) (ρ 3) (ρ 4) w) 0 ((b4_eq R ρ w).mp h) (fun ρ w h=>k5_ok R ρ w h)
theorem k2_ok (R:EP) (ρ:Env) (w:World) (h:b4 R (ρ 0) (ρ 3) w):codeP Tryd.prog (pan R) p1 (q1 R) ρ w:=by
 have e:Code.seq (fstC p1) (sndC p1)=p1:=by kernel_rfl
 rw [←e]
 exact seqQ (fun ρ w=>b3 R (ρ 3) w) (b4_ok R ρ w h) (fun ρ w h=>b3_ok R ρ w h)
def b1 (R:EP) (x0:Value) (w:World) (_r:Tok R:=tok R):Prop :=
 b4 R x0 (Go.Value.string {data:=#[] }) w
abbrev q6 (R:EP):XP:=QX (fun ρ w=>b4 R (ρ 0) (ρ 3) w) (fun ρ w=>R (.returned (ρ 2)) w) []
theorem b1_eq (R:EP) (ρ:Env) (w:World):(b1 R (ρ 0) w)=codeP Tryd.prog (pan R) (preC 1 code) (q6 R) ρ w:=by kernel_rfl
theorem b1_ok (R:EP) (ρ:Env) (w:World) (h:b1 R (ρ 0) w):codeP Tryd.prog (pan R) code (q1 R) ρ w:=by
 have e:appC 1 (preC 1 code) (dropC 2 code)=code:=by kernel_rfl
 rw [←e]
 exact appQ (fun ρ w=>b4 R (ρ 0) (ρ 3) w) 1 ((b1_eq R ρ w).mp h) (fun ρ w h=>k2_ok R ρ w h)
/-- What is owed for a call. -/
def run (R:EP) (a0:Value) (w:World):Prop:=b1 R a0 w
theorem calls (R:EP) (a0:Value) (w:World) (h:run R a0 w):Calls Tryd.prog id #[a0] w R :=
 calls_of_t (f:=id) (fn:=Tryd.f22) (c:=code) (by kernel_rfl) Tryd.func22 (by kernel_rfl) (by kernel_rfl) (args:=[a0]) (Nat.le_of_ble_eq_true rfl) rfl (b1_ok R (envOf [a0]) w h)
theorem enters:Enters Tryd.prog id:=fun args w=>Tryd.call22 args w
theorem ct {a0:Value} {w:World} {S:VP} (h:∀R:EP,(∀v w,S v w→R (.returned v) w)→run R a0 w):Ct Tryd.prog id #[a0] w S :=
 Ct.intro enters fun R hR=>calls R a0 w (h R hR)
attribute [irreducible] b3 b7_1 b7_2 b7 l6 b4 b1 run
attribute [go_sem] b3 b7_1 b7_2 b7 b4 b1 run
end law04_joined

/-! ### presage/presagelaw04.alike -/
namespace law04_alike
noncomputable def code:Code:=bodyOf Tryd.f23
def b1_1 (R:EP) (v9 v21:Value) (w40:World) (_r:Tok R:=tok R):Prop :=
 RUN Tryd.prog (pan R) (Instr.fieldAt 31 v9 1) w40 fun v41 w42 =>
 RUN Tryd.prog (pan R) (Instr.loadAt 3 v41) w42 fun v43 w44 =>
 RUN Tryd.prog (pan R) (Instr.fieldAt 31 v21 1) w44 fun v45 w46 =>
 RUN Tryd.prog (pan R) (Instr.loadAt 3 v45) w46 fun v47 w48 =>
 RUN Tryd.prog (pan R) (bins .eql 3 (.tmp 33) (.tmp 35) v43 v47) w48 fun v49 w50 =>
 R (.returned v49) w50
def b1_2 (R:EP) (v9 v21:Value) (w30:World) (_r:Tok R:=tok R):Prop :=
 RUN Tryd.prog (pan R) (Instr.fieldAt 31 v9 0) w30 fun v31 w32 =>
 RUN Tryd.prog (pan R) (Instr.loadAt 29 v31) w32 fun v33 w34 =>
 RUN Tryd.prog (pan R) (Instr.fieldAt 31 v21 0) w34 fun v35 w36 =>
 RUN Tryd.prog (pan R) (Instr.loadAt 29 v35) w36 fun v37 w38 =>
 RUN Tryd.prog (pan R) (bins .eql 29 (.tmp 26) (.tmp 28) v33 v37) w38 fun v39 w40 =>
 SPL v39
 (b1_1 R v9 v21 w40)
 (R (.returned (Go.Value.bool Bool.false)) w40)
def b1_3 (R:EP) (v7 v9 v13:Value) (w14:World) (_r:Tok R:=tok R):Prop :=
 RUN Tryd.prog (pan R) (Instr.extract v13 0) w14 fun v15 w16 =>
 RUN Tryd.prog (pan R) (Instr.extract v13 1) w16 fun v17 w18 =>
 RUN Tryd.prog (pan R) (Instr.alloc 28 true (.tuple #[])) w18 fun v19 w20 =>
 RUN Tryd.prog (pan R) (Instr.alloc 31 true (.tuple #[])) w20 fun v21 w22 =>
 RUNU Tryd.prog (pan R) (Instr.storeAt 28 v19 v15) w22 fun w23 =>
 RUNU Tryd.prog (pan R) (Instr.storeAt 31 v21 v17) w23 fun w24 =>
 RUN Tryd.prog (pan R) (Instr.loadAt 28 v7) w24 fun v25 w26 =>
 RUN Tryd.prog (pan R) (Instr.loadAt 28 v19) w26 fun v27 w28 =>
 CALL Tryd.prog (pan R) ref02_Same.id #[v25,v27] w28 fun v29 w30 =>
 SPL v29
 (b1_2 R v9 v21 w30)
 (R (.returned (Go.Value.bool Bool.false)) w30)
def b1_4 (R:EP) (x1 v1:Value) (w2:World) (_r:Tok R:=tok R):Prop :=
 RUN Tryd.prog (pan R) (Instr.extract v1 0) w2 fun v3 w4 =>
 RUN Tryd.prog (pan R) (Instr.extract v1 1) w4 fun v5 w6 =>
 RUN Tryd.prog (pan R) (Instr.alloc 28 true (.tuple #[])) w6 fun v7 w8 =>
 RUN Tryd.prog (pan R) (Instr.alloc 31 true (.tuple #[])) w8 fun v9 w10 =>
 RUNU Tryd.prog (pan R) (Instr.storeAt 28 v7 v3) w10 fun w11 =>
 RUNU Tryd.prog (pan R) (Instr.storeAt 31 v9 v5) w11 fun w12 =>
 CALL Tryd.prog (pan R) spec_Read.id #[x1] w12 fun v13 w14 =>
 b1_3 R v7 v9 v13 w14
def b1 (R:EP) (x0 x1:Value) (w:World) (_r:Tok R:=tok R):Prop :=
 CALL Tryd.prog (pan R) spec_Read.id #[x0] w fun v1 w2 =>
 b1_4 R x1 v1 w2
abbrev q1 (R:EP):XP:=QX (fun ρ w=>R (.returned (ρ 4)) w) (fun ρ w=>R (.returned (ρ 4)) w) []
theorem b1_eq (R:EP) (ρ:Env) (w:World):(b1 R (ρ 0) (ρ 1) w)=codeP Tryd.prog (pan R) code (q1 R) ρ w:=by kernel_rfl
theorem b1_ok (R:EP) (ρ:Env) (w:World) (h:b1 R (ρ 0) (ρ 1) w):codeP Tryd.prog (pan R) code (q1 R) ρ w:=(b1_eq R ρ w).mp h
/-- What is owed for a call. -/
def run (R:EP) (a0 a1:Value) (w:World):Prop:=b1 R a0 a1 w
theorem calls (R:EP) (a0 a1:Value) (w:World) (h:run R a0 a1 w):Calls Tryd.prog id #[a0,a1] w R :=
 calls_of_t (f:=id) (fn:=Tryd.f23) (c:=code) (by kernel_rfl) Tryd.func23 (by kernel_rfl) (by kernel_rfl) (args:=[a0,a1]) (Nat.le_of_ble_eq_true rfl) rfl (b1_ok R (envOf [a0,a1]) w h)
theorem enters:Enters Tryd.prog id:=fun args w=>Tryd.call23 args w
theorem ct {a0 a1:Value} {w:World} {S:VP} (h:∀R:EP,(∀v w,S v w→R (.returned v) w)→run R a0 a1 w):Ct Tryd.prog id #[a0,a1] w S :=
 Ct.intro enters fun R hR=>calls R a0 a1 w (h R hR)
attribute [irreducible] b1_1 b1_2 b1_3 b1_4 b1 run
attribute [go_sem] b1_1 b1_2 b1_3 b1_4 b1 run
end law04_alike
end Go.Proofs.YtckbgeedlobfaaaDoor
