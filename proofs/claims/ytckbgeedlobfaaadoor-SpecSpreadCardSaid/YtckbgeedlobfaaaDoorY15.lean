/- Shallow programs, written by a program of ours (gen.py) off the translation; each is tied to the code by the kernel. -/
import Derived.Test.YtckbgeedlobfaaaDoorY04
set_option linter.unusedVariables false
set_option maxRecDepth 100000
namespace Go.Proofs.YtckbgeedlobfaaaDoor
open Go.Px

/-! ### presage/presagelaw04.SpecSpread -/
namespace law04_SpecSpread
noncomputable def code:Code:=bodyOf Tryd.f4
noncomputable abbrev p1:Code:=dropC 7 code
noncomputable abbrev p2:Code:=dropC 2 (sndC p1)
def b4_1 (R:EP) (x9 x10:Value) (w44:World) (_r:Tok R:=tok R):Prop :=
 RUN Tryd.prog (pan R) (bins .lss 3 (.tmp 111) (.const (Go.Value.int Go.IntKind.i64 0)) x9 (Go.Value.int Go.IntKind.i64 0)) w44 fun v45 w46 =>
 RUN Tryd.prog (pan R) (bins .lss 3 (.tmp 113) (.const (Go.Value.int Go.IntKind.i64 0)) x10 (Go.Value.int Go.IntKind.i64 0)) w46 fun v47 w48 =>
 RUN Tryd.prog (pan R) (bins .eql 4 (.tmp 112) (.tmp 114) v45 v47) w48 fun v49 w50 =>
 R (.returned v49) w50
def b4_2 (R:EP) (x8 x9 x10:Value) (w40:World) (_r:Tok R:=tok R):Prop :=
 CALL Tryd.prog (pan R) spec_Bad.id #[x8] w40 fun v41 w42 =>
 RUN Tryd.prog (pan R) (bins .eql 3 (.tmp 106) (.tmp 107) v41 x9) w42 fun v43 w44 =>
 SPL v43
 (b4_1 R x9 x10 w44)
 (R (.returned (Go.Value.bool Bool.false)) w44)
def b4_3 (R:EP) (x8 x9 x10 v9 v21:Value) (w30:World) (_r:Tok R:=tok R):Prop :=
 RUN Tryd.prog (pan R) (Instr.fieldAt 31 v9 0) w30 fun v31 w32 =>
 RUN Tryd.prog (pan R) (Instr.loadAt 29 v31) w32 fun v33 w34 =>
 RUN Tryd.prog (pan R) (Instr.fieldAt 31 v21 0) w34 fun v35 w36 =>
 RUN Tryd.prog (pan R) (Instr.loadAt 29 v35) w36 fun v37 w38 =>
 RUN Tryd.prog (pan R) (bins .eql 29 (.tmp 99) (.tmp 101) v33 v37) w38 fun v39 w40 =>
 SPL v39
 (b4_2 R x8 x9 x10 w40)
 (R (.returned (Go.Value.bool Bool.false)) w40)
def b4_4 (R:EP) (x5 x8 x9 x10 v7 v9 v13:Value) (w14:World) (_r:Tok R:=tok R):Prop :=
 RUN Tryd.prog (pan R) (Instr.extract v13 0) w14 fun v15 w16 =>
 RUN Tryd.prog (pan R) (Instr.extract v13 1) w16 fun v17 w18 =>
 RUN Tryd.prog (pan R) (Instr.alloc 28 true (.tuple #[])) w18 fun v19 w20 =>
 RUN Tryd.prog (pan R) (Instr.alloc 31 true (.tuple #[])) w20 fun v21 w22 =>
 RUNU Tryd.prog (pan R) (Instr.storeAt 28 v19 v15) w22 fun w23 =>
 RUNU Tryd.prog (pan R) (Instr.storeAt 31 v21 v17) w23 fun w24 =>
 RUN Tryd.prog (pan R) (Instr.loadAt 28 v7) w24 fun v25 w26 =>
 RUN Tryd.prog (pan R) (Instr.loadAt 28 v19) w26 fun v27 w28 =>
 CALL Tryd.prog (pan R) ref02_Same.id #[v25,v27] w28 fun v29 w30 =>
 SPL x5
 (SPL v29
 (b4_3 R x8 x9 x10 v9 v21 w30)
 (R (.returned (Go.Value.bool Bool.false)) w30))
 (R (.returned (Go.Value.bool Bool.false)) w30)
def b4_5 (R:EP) (x5 x8 x9 x10 v1:Value) (w2:World) (_r:Tok R:=tok R):Prop :=
 RUN Tryd.prog (pan R) (Instr.extract v1 0) w2 fun v3 w4 =>
 RUN Tryd.prog (pan R) (Instr.extract v1 1) w4 fun v5 w6 =>
 RUN Tryd.prog (pan R) (Instr.alloc 28 true (.tuple #[])) w6 fun v7 w8 =>
 RUN Tryd.prog (pan R) (Instr.alloc 31 true (.tuple #[])) w8 fun v9 w10 =>
 RUNU Tryd.prog (pan R) (Instr.storeAt 28 v7 v3) w10 fun w11 =>
 RUNU Tryd.prog (pan R) (Instr.storeAt 31 v9 v5) w11 fun w12 =>
 CALL Tryd.prog (pan R) spec_Read.id #[x8] w12 fun v13 w14 =>
 b4_4 R x5 x8 x9 x10 v7 v9 v13 w14

def b4 (R:EP) (x0 x5 x8 x9 x10:Value) (w:World) (_r:Tok R:=tok R):Prop :=
 CALL Tryd.prog (pan R) spec_Read.id #[x0] w fun v1 w2 =>
 b4_5 R x5 x8 x9 x10 v1 w2
abbrev q1 (R:EP):XP:=QX (fun ρ w=>R (.returned (ρ 4)) w) (fun ρ w=>R (.returned (ρ 4)) w) []
theorem b4_eq (R:EP) (ρ:Env) (w:World):(b4 R (ρ 0) (ρ 5) (ρ 8) (ρ 9) (ρ 10) w)=codeP Tryd.prog (pan R) p2 (q1 R) ρ w:=by kernel_rfl
theorem b4_ok (R:EP) (ρ:Env) (w:World) (h:b4 R (ρ 0) (ρ 5) (ρ 8) (ρ 9) (ρ 10) w):codeP Tryd.prog (pan R) p2 (q1 R) ρ w:=(b4_eq R ρ w).mp h
def b3_1 (R:EP) (x0 x5 x8 x9 x10:Value) (w4:World) (_r:Tok R:=tok R):Prop :=
 RUN Tryd.prog (pan R) (Builtin.len_ #[9] 3 #[x0]) w4 fun v5 w6 =>
 RUN Tryd.prog (pan R) (bins .eql 3 (.tmp 74) (.tmp 76) x10 v5) w6 fun v7 w8 =>
 SPL v7
 (RUN Tryd.prog (pan R) (Builtin.len_ #[9] 3 #[x8]) w8 fun v9 w10 =>
 b4 R x0 x5 x8 v9 x10 w10)
 (b4 R x0 x5 x8 x9 x10 w8)

def b3 (R:EP) (x0 x5 x8 x9 x10:Value) (w:World) (_r:Tok R:=tok R):Prop :=
 RUN Tryd.prog (pan R) (Builtin.len_ #[9] 3 #[x8]) w fun v1 w2 =>
 RUN Tryd.prog (pan R) (bins .gtr 3 (.tmp 71) (.const (Go.Value.int Go.IntKind.i64 8192)) v1 (Go.Value.int Go.IntKind.i64 8192)) w2 fun v3 w4 =>
 SPL v3
 (R (.returned x5) w4)
 (b3_1 R x0 x5 x8 x9 x10 w4)
abbrev q2 (R:EP):XP:=QX (fun ρ w=>b4 R (ρ 0) (ρ 5) (ρ 8) (ρ 9) (ρ 10) w) (fun ρ w=>R (.returned (ρ 4)) w) []
theorem b3_eq (R:EP) (ρ:Env) (w:World):(b3 R (ρ 0) (ρ 5) (ρ 8) (ρ 9) (ρ 10) w)=codeP Tryd.prog (pan R) (preC 1 (sndC p1)) (q2 R) ρ w:=by kernel_rfl
theorem b3_ok (R:EP) (ρ:Env) (w:World) (h:b3 R (ρ 0) (ρ 5) (ρ 8) (ρ 9) (ρ 10) w):codeP Tryd.prog (pan R) (sndC p1) (q1 R) ρ w:=by
 have e:appC 1 (preC 1 (sndC p1)) (dropC 2 (sndC p1))=(sndC p1):=by kernel_rfl
 rw [←e]
 exact appQ (fun ρ w=>b4 R (ρ 0) (ρ 5) (ρ 8) (ρ 9) (ρ 10) w) 1 ((b3_eq R ρ w).mp h) (fun ρ w h=>b4_ok R ρ w h)
noncomputable abbrev p3:Code:=dropC 1 (fstC p1)
noncomputable abbrev p4:Code:=loopC (blkC p3)
noncomputable abbrev p5:Code:=sndC (sndC p4)

def b10 (R:EP) (C7:Value→Value→VP) (x8 x9 x11:Value) (w:World) (_r:Tok R:=tok R) (_C7:Tok C7:=tok C7):Prop :=
 RUN Tryd.prog (pan R) (bins .add 3 (.tmp 38) (.const (Go.Value.int Go.IntKind.i64 1)) x11 (Go.Value.int Go.IntKind.i64 1)) w fun v1 w2 =>
 C7 x8 x9 v1 w2
abbrev q3 (R:EP) (C7:Value→Value→VP):XP:=QX (fun ρ w=>C7 (ρ 8) (ρ 9) (ρ 11) w) (fun ρ w=>R (.returned (ρ 4)) w) [(0,(fun ρ w=>b3 R (ρ 0) (ρ 5) (ρ 8) (ρ 9) (ρ 10) w))]
theorem b10_eq (R:EP) (C7:Value→Value→VP) (ρ:Env) (w:World):(b10 R C7 (ρ 8) (ρ 9) (ρ 11) w)=codeP Tryd.prog (pan R) p5 (q3 R C7) ρ w:=by kernel_rfl
theorem b10_ok (R:EP) (C7:Value→Value→VP) (ρ:Env) (w:World) (h:b10 R C7 (ρ 8) (ρ 9) (ρ 11) w):codeP Tryd.prog (pan R) p5 (q3 R C7) ρ w:=(b10_eq R C7 ρ w).mp h
noncomputable abbrev p6:Code:=fstC (sndC p4)
noncomputable abbrev p7:Code:=dropC 2 (blkC p6)
noncomputable abbrev p8:Code:=dropC 2 p7

def b14 (R:EP) (C7:Value→Value→VP) (x6 x8 x9 x11:Value) (w:World) (_r:Tok R:=tok R) (_C7:Tok C7:=tok C7):Prop :=
 RUN Tryd.prog (pan R) (Instr.indexAt 41 x6 x11) w fun v1 w2 =>
 RUN Tryd.prog (pan R) (Instr.loadAt 46 v1) w2 fun v3 w4 =>
 CALL Tryd.prog (pan R) law04_written.id #[v3] w4 fun v5 w6 =>
 RUN Tryd.prog (pan R) (bins .add 9 (.tmp 63) (.tmp 68) x8 v5) w6 fun v7 w8 =>
 b10 R C7 v7 x9 x11 w8
abbrev q4 (R:EP) (C7:Value→Value→VP):XP:=QX (fun ρ w=>b10 R C7 (ρ 8) (ρ 9) (ρ 11) w) (fun ρ w=>R (.returned (ρ 4)) w) [(2,(fun ρ w=>b10 R C7 (ρ 8) (ρ 9) (ρ 11) w)),(0,(fun ρ w=>b3 R (ρ 0) (ρ 5) (ρ 8) (ρ 9) (ρ 10) w))]
theorem b14_eq (R:EP) (C7:Value→Value→VP) (ρ:Env) (w:World):(b14 R C7 (ρ 6) (ρ 8) (ρ 9) (ρ 11) w)=codeP Tryd.prog (pan R) p8 (q4 R C7) ρ w:=by kernel_rfl
theorem b14_ok (R:EP) (C7:Value→Value→VP) (ρ:Env) (w:World) (h:b14 R C7 (ρ 6) (ρ 8) (ρ 9) (ρ 11) w):codeP Tryd.prog (pan R) p8 (q4 R C7) ρ w:=(b14_eq R C7 ρ w).mp h
def b13_1 (R:EP) (C7:Value→Value→VP) (x6 x8 x9 x10 x11 v1:Value) (w2:World) (_r:Tok R:=tok R) (_C7:Tok C7:=tok C7):Prop :=
 RUN Tryd.prog (pan R) (bins .add 9 (.tmp 50) (.tmp 52) x8 v1) w2 fun v3 w4 =>
 RUN Tryd.prog (pan R) (Instr.indexAt 41 x6 x11) w4 fun v5 w6 =>
 RUN Tryd.prog (pan R) (Instr.fieldAt 46 v5 2) w6 fun v7 w8 =>
 RUN Tryd.prog (pan R) (Instr.loadAt 3 v7) w8 fun v9 w10 =>
 RUN Tryd.prog (pan R) (bins .eql 3 (.tmp 58) (.tmp 59) v9 x10) w10 fun v11 w12 =>
 SPL v11
 (RUN Tryd.prog (pan R) (Builtin.len_ #[9] 3 #[v3]) w12 fun v13 w14 =>
 b14 R C7 x6 v3 v13 x11 w14)
 (b14 R C7 x6 v3 x9 x11 w12)

def b13 (R:EP) (C7:Value→Value→VP) (x6 x8 x9 x10 x11 x12:Value) (w:World) (_r:Tok R:=tok R) (_C7:Tok C7:=tok C7):Prop :=
 CALL Tryd.prog (pan R) law04_gap.id #[x12] w fun v1 w2 =>
 b13_1 R C7 x6 x8 x9 x10 x11 v1 w2
abbrev q5 (R:EP) (C7:Value→Value→VP):XP:=QX (fun ρ w=>b14 R C7 (ρ 6) (ρ 8) (ρ 9) (ρ 11) w) (fun ρ w=>R (.returned (ρ 4)) w) [(2,(fun ρ w=>b10 R C7 (ρ 8) (ρ 9) (ρ 11) w)),(0,(fun ρ w=>b3 R (ρ 0) (ρ 5) (ρ 8) (ρ 9) (ρ 10) w))]
theorem b13_eq (R:EP) (C7:Value→Value→VP) (ρ:Env) (w:World):(b13 R C7 (ρ 6) (ρ 8) (ρ 9) (ρ 10) (ρ 11) (ρ 12) w)=codeP Tryd.prog (pan R) (preC 1 p7) (q5 R C7) ρ w:=by kernel_rfl
theorem b13_ok (R:EP) (C7:Value→Value→VP) (ρ:Env) (w:World) (h:b13 R C7 (ρ 6) (ρ 8) (ρ 9) (ρ 10) (ρ 11) (ρ 12) w):codeP Tryd.prog (pan R) p7 (q4 R C7) ρ w:=by
 have e:appC 1 (preC 1 p7) (dropC 2 p7)=p7:=by kernel_rfl
 rw [←e]
 exact appQ (fun ρ w=>b14 R C7 (ρ 6) (ρ 8) (ρ 9) (ρ 11) w) 1 ((b13_eq R C7 ρ w).mp h) (fun ρ w h=>b14_ok R C7 ρ w h)
def b12_1 (R:EP) (C7:Value→Value→VP) (x1 x6 x8 x9 x10 x11:Value) (w4:World) (_r:Tok R:=tok R) (_C7:Tok C7:=tok C7):Prop :=
 RUN Tryd.prog (pan R) (Builtin.len_ #[25] 3 #[x1]) w4 fun v5 w6 =>
 RUN Tryd.prog (pan R) (bins .rem 3 (.tmp 44) (.tmp 46) x11 v5) w6 fun v7 w8 =>
 RUN Tryd.prog (pan R) (Instr.indexAt 25 x1 v7) w8 fun v9 w10 =>
 RUN Tryd.prog (pan R) (Instr.loadAt 3 v9) w10 fun v11 w12 =>
 b13 R C7 x6 x8 x9 x10 x11 v11 w12

def b12 (R:EP) (C7:Value→Value→VP) (x1 x6 x8 x9 x10 x11:Value) (w:World) (_r:Tok R:=tok R) (_C7:Tok C7:=tok C7):Prop :=
 RUN Tryd.prog (pan R) (Builtin.len_ #[25] 3 #[x1]) w fun v1 w2 =>
 RUN Tryd.prog (pan R) (bins .gtr 3 (.tmp 41) (.const (Go.Value.int Go.IntKind.i64 0)) v1 (Go.Value.int Go.IntKind.i64 0)) w2 fun v3 w4 =>
 SPL v3
 (b12_1 R C7 x1 x6 x8 x9 x10 x11 w4)
 (b13 R C7 x6 x8 x9 x10 x11 (Go.Value.int Go.IntKind.i64 0) w4)
abbrev q6 (R:EP) (C7:Value→Value→VP):XP:=QX (fun ρ w=>b13 R C7 (ρ 6) (ρ 8) (ρ 9) (ρ 10) (ρ 11) (ρ 12) w) (fun ρ w=>R (.returned (ρ 4)) w) [(2,(fun ρ w=>b10 R C7 (ρ 8) (ρ 9) (ρ 11) w)),(0,(fun ρ w=>b3 R (ρ 0) (ρ 5) (ρ 8) (ρ 9) (ρ 10) w))]
theorem b12_eq (R:EP) (C7:Value→Value→VP) (ρ:Env) (w:World):(b12 R C7 (ρ 1) (ρ 6) (ρ 8) (ρ 9) (ρ 10) (ρ 11) w)=codeP Tryd.prog (pan R) (preC 1 (blkC p6)) (q6 R C7) ρ w:=by kernel_rfl
theorem b12_ok (R:EP) (C7:Value→Value→VP) (ρ:Env) (w:World) (h:b12 R C7 (ρ 1) (ρ 6) (ρ 8) (ρ 9) (ρ 10) (ρ 11) w):codeP Tryd.prog (pan R) (blkC p6) (q4 R C7) ρ w:=by
 have e:appC 1 (preC 1 (blkC p6)) (dropC 2 (blkC p6))=(blkC p6):=by kernel_rfl
 rw [←e]
 exact appQ (fun ρ w=>b13 R C7 (ρ 6) (ρ 8) (ρ 9) (ρ 10) (ρ 11) (ρ 12) w) 1 ((b12_eq R C7 ρ w).mp h) (fun ρ w h=>b13_ok R C7 ρ w h)
abbrev q7 (R:EP) (C7:Value→Value→VP):XP:=QX (fun ρ w=>b10 R C7 (ρ 8) (ρ 9) (ρ 11) w) (fun ρ w=>R (.returned (ρ 4)) w) [(0,(fun ρ w=>b3 R (ρ 0) (ρ 5) (ρ 8) (ρ 9) (ρ 10) w))]
theorem k11_ok (R:EP) (C7:Value→Value→VP) (ρ:Env) (w:World) (h:b12 R C7 (ρ 1) (ρ 6) (ρ 8) (ρ 9) (ρ 10) (ρ 11) w):codeP Tryd.prog (pan R) p6 (q7 R C7) ρ w:=by
 have e:Code.block 1 (blkC p6)=p6:=by kernel_rfl
 rw [←e]
 exact blockQ (b12_ok R C7 ρ w h)
theorem k9_ok (R:EP) (C7:Value→Value→VP) (ρ:Env) (w:World) (h:b12 R C7 (ρ 1) (ρ 6) (ρ 8) (ρ 9) (ρ 10) (ρ 11) w):codeP Tryd.prog (pan R) (sndC p4) (q3 R C7) ρ w:=by
 have e:Code.seq (fstC (sndC p4)) (sndC (sndC p4))=(sndC p4):=by kernel_rfl
 rw [←e]
 exact seqQ (fun ρ w=>b10 R C7 (ρ 8) (ρ 9) (ρ 11) w) (k11_ok R C7 ρ w h) (fun ρ w h=>b10_ok R C7 ρ w h)
noncomputable abbrev p9:Code:=dropC 1 (fstC p4)

def b16 (R:EP) (C7:Value→Value→VP) (x0 x1 x5 x6 x8 x9 x10 x11 x37:Value) (w:World) (_r:Tok R:=tok R) (_C7:Tok C7:=tok C7):Prop :=
 SPL x37
 (b12 R C7 x1 x6 x8 x9 x10 x11 w)
 (b3 R x0 x5 x8 x9 x10 w)
abbrev q8 (R:EP) (C7:Value→Value→VP):XP:=QX (fun ρ w=>b12 R C7 (ρ 1) (ρ 6) (ρ 8) (ρ 9) (ρ 10) (ρ 11) w) (fun ρ w=>R (.returned (ρ 4)) w) [(0,(fun ρ w=>b3 R (ρ 0) (ρ 5) (ρ 8) (ρ 9) (ρ 10) w))]
theorem b16_eq (R:EP) (C7:Value→Value→VP) (ρ:Env) (w:World):(b16 R C7 (ρ 0) (ρ 1) (ρ 5) (ρ 6) (ρ 8) (ρ 9) (ρ 10) (ρ 11) (ρ 37) w)=codeP Tryd.prog (pan R) p9 (q8 R C7) ρ w:=by kernel_rfl
theorem b16_ok (R:EP) (C7:Value→Value→VP) (ρ:Env) (w:World) (h:b16 R C7 (ρ 0) (ρ 1) (ρ 5) (ρ 6) (ρ 8) (ρ 9) (ρ 10) (ρ 11) (ρ 37) w):codeP Tryd.prog (pan R) p9 (q8 R C7) ρ w:=(b16_eq R C7 ρ w).mp h
def b15_1 (R:EP) (C7:Value→Value→VP) (x0 x1 x5 x6 x8 x9 x10 x11:Value) (w4:World) (_r:Tok R:=tok R) (_C7:Tok C7:=tok C7):Prop :=
 RUN Tryd.prog (pan R) (Builtin.len_ #[9] 3 #[x8]) w4 fun v5 w6 =>
 RUN Tryd.prog (pan R) (bins .leq 3 (.tmp 35) (.const (Go.Value.int Go.IntKind.i64 8192)) v5 (Go.Value.int Go.IntKind.i64 8192)) w6 fun v7 w8 =>
 b16 R C7 x0 x1 x5 x6 x8 x9 x10 x11 v7 w8

def b15 (R:EP) (C7:Value→Value→VP) (x0 x1 x5 x6 x8 x9 x10 x11:Value) (w:World) (_r:Tok R:=tok R) (_C7:Tok C7:=tok C7):Prop :=
 RUN Tryd.prog (pan R) (Builtin.len_ #[41] 3 #[x6]) w fun v1 w2 =>
 RUN Tryd.prog (pan R) (bins .lss 3 (.tmp 29) (.tmp 31) x11 v1) w2 fun v3 w4 =>
 SPL v3
 (b15_1 R C7 x0 x1 x5 x6 x8 x9 x10 x11 w4)
 (b16 R C7 x0 x1 x5 x6 x8 x9 x10 x11 (Go.Value.bool Bool.false) w4)
abbrev q9 (R:EP) (C7:Value→Value→VP):XP:=QX (fun ρ w=>b16 R C7 (ρ 0) (ρ 1) (ρ 5) (ρ 6) (ρ 8) (ρ 9) (ρ 10) (ρ 11) (ρ 37) w) (fun ρ w=>R (.returned (ρ 4)) w) [(0,(fun ρ w=>b3 R (ρ 0) (ρ 5) (ρ 8) (ρ 9) (ρ 10) w))]
theorem b15_eq (R:EP) (C7:Value→Value→VP) (ρ:Env) (w:World):(b15 R C7 (ρ 0) (ρ 1) (ρ 5) (ρ 6) (ρ 8) (ρ 9) (ρ 10) (ρ 11) w)=codeP Tryd.prog (pan R) (preC 0 (fstC p4)) (q9 R C7) ρ w:=by kernel_rfl
theorem b15_ok (R:EP) (C7:Value→Value→VP) (ρ:Env) (w:World) (h:b15 R C7 (ρ 0) (ρ 1) (ρ 5) (ρ 6) (ρ 8) (ρ 9) (ρ 10) (ρ 11) w):codeP Tryd.prog (pan R) (fstC p4) (q8 R C7) ρ w:=by
 have e:appC 0 (preC 0 (fstC p4)) (dropC 1 (fstC p4))=(fstC p4):=by kernel_rfl
 rw [←e]
 exact appQ (fun ρ w=>b16 R C7 (ρ 0) (ρ 1) (ρ 5) (ρ 6) (ρ 8) (ρ 9) (ρ 10) (ρ 11) (ρ 37) w) 0 ((b15_eq R C7 ρ w).mp h) (fun ρ w h=>b16_ok R C7 ρ w h)
theorem k8_ok (R:EP) (C7:Value→Value→VP) (ρ:Env) (w:World) (h:b15 R C7 (ρ 0) (ρ 1) (ρ 5) (ρ 6) (ρ 8) (ρ 9) (ρ 10) (ρ 11) w):codeP Tryd.prog (pan R) p4 (q3 R C7) ρ w:=by
 have e:Code.seq (fstC p4) (sndC p4)=p4:=by kernel_rfl
 rw [←e]
 exact seqQ (fun ρ w=>b12 R C7 (ρ 1) (ρ 6) (ρ 8) (ρ 9) (ρ 10) (ρ 11) w) (b15_ok R C7 ρ w h) (fun ρ w h=>k9_ok R C7 ρ w h)

def l7 (R:EP) (x0 x1 x5 x6 x8 x9 x10 x11:Value) (w:World) (_r:Tok R:=tok R):Prop :=
 ∃(J:Value→Value→VP) (μ:Value→Value→Value→World→Nat),J x8 x9 x11 w∧∀y8 y9 y11 w0,J y8 y9 y11 w0→b15 R (fun z8 z9 z11 w1=>J z8 z9 z11 w1∧μ z8 z9 z11 w1<μ y8 y9 y11 w0) x0 x1 x5 x6 y8 y9 x10 y11 w0
abbrev q10 (R:EP):XP:=QX (fun ρ w=>b3 R (ρ 0) (ρ 5) (ρ 8) (ρ 9) (ρ 10) w) (fun ρ w=>R (.returned (ρ 4)) w) [(0,(fun ρ w=>b3 R (ρ 0) (ρ 5) (ρ 8) (ρ 9) (ρ 10) w))]
theorem l7_ok (R:EP) (ρ:Env) (w:World) (h:l7 R (ρ 0) (ρ 1) (ρ 5) (ρ 6) (ρ 8) (ρ 9) (ρ 10) (ρ 11) w):codeP Tryd.prog (pan R) (blkC p3) (q10 R) ρ w:=by
 unfold l7 at h
 obtain ⟨J,μ,h0,hr⟩:=h
 have e:Code.loop (loopC (blkC p3))=(blkC p3):=by kernel_rfl
 rw [←e]
 refine loopQ (fun ρ' w'=>J (ρ' 8) (ρ' 9) (ρ' 11) w') (fun ρ' w'=>μ (ρ' 8) (ρ' 9) (ρ' 11) w') h0 fun ρ' w' hA hI=>?_
 have e0:ρ' 0=ρ 0:=Agree.at hA 0 (by kernel_rfl)
 have e1:ρ' 1=ρ 1:=Agree.at hA 1 (by kernel_rfl)
 have e5:ρ' 5=ρ 5:=Agree.at hA 5 (by kernel_rfl)
 have e6:ρ' 6=ρ 6:=Agree.at hA 6 (by kernel_rfl)
 have e10:ρ' 10=ρ 10:=Agree.at hA 10 (by kernel_rfl)
 have h1:=hr (ρ' 8) (ρ' 9) (ρ' 11) w' hI
 rw [←e0,←e1,←e5,←e6,←e10] at h1
 exact k8_ok R (fun z8 z9 z11 w1=>J z8 z9 z11 w1∧μ z8 z9 z11 w1<μ (ρ' 8) (ρ' 9) (ρ' 11) w') ρ' w' h1
theorem l7_intro (R:EP) (x0 x1 x5 x6 x8 x9 x10 x11:Value) (w:World) (J:Value→Value→VP) (μ:Value→Value→Value→World→Nat) (h0:J x8 x9 x11 w)
  (hr:∀y8 y9 y11 w0,J y8 y9 y11 w0→∀C7:Value→Value→VP,(∀z8 z9 z11 w1,J z8 z9 z11 w1→μ z8 z9 z11 w1<μ y8 y9 y11 w0→C7 z8 z9 z11 w1)→b15 R C7 x0 x1 x5 x6 y8 y9 x10 y11 w0):l7 R x0 x1 x5 x6 x8 x9 x10 x11 w:=by
 unfold l7
 exact ⟨J,μ,h0,fun y8 y9 y11 w0 hJ=>hr y8 y9 y11 w0 hJ _ (fun z8 z9 z11 w1 h1 h2=>⟨h1,h2⟩)⟩
abbrev q11 (R:EP):XP:=QX (fun ρ w=>b3 R (ρ 0) (ρ 5) (ρ 8) (ρ 9) (ρ 10) w) (fun ρ w=>R (.returned (ρ 4)) w) []
theorem k6_ok (R:EP) (ρ:Env) (w:World) (h:l7 R (ρ 0) (ρ 1) (ρ 5) (ρ 6) (ρ 8) (ρ 9) (ρ 10) (ρ 11) w):codeP Tryd.prog (pan R) p3 (q11 R) ρ w:=by
 have e:Code.block 0 (blkC p3)=p3:=by kernel_rfl
 rw [←e]
 exact blockQ (l7_ok R ρ w h)

def b5 (R:EP) (x0 x1 x5 x6 x8 x9 x10:Value) (w:World) (_r:Tok R:=tok R):Prop :=
 l7 R x0 x1 x5 x6 x8 x9 x10 (Go.Value.int Go.IntKind.i64 0) w
abbrev q12 (R:EP):XP:=QX (fun ρ w=>l7 R (ρ 0) (ρ 1) (ρ 5) (ρ 6) (ρ 8) (ρ 9) (ρ 10) (ρ 11) w) (fun ρ w=>R (.returned (ρ 4)) w) []
theorem b5_eq (R:EP) (ρ:Env) (w:World):(b5 R (ρ 0) (ρ 1) (ρ 5) (ρ 6) (ρ 8) (ρ 9) (ρ 10) w)=codeP Tryd.prog (pan R) (preC 0 (fstC p1)) (q12 R) ρ w:=by kernel_rfl
theorem b5_ok (R:EP) (ρ:Env) (w:World) (h:b5 R (ρ 0) (ρ 1) (ρ 5) (ρ 6) (ρ 8) (ρ 9) (ρ 10) w):codeP Tryd.prog (pan R) (fstC p1) (q11 R) ρ w:=by
 have e:appC 0 (preC 0 (fstC p1)) (dropC 1 (fstC p1))=(fstC p1):=by kernel_rfl
 rw [←e]
 exact appQ (fun ρ w=>l7 R (ρ 0) (ρ 1) (ρ 5) (ρ 6) (ρ 8) (ρ 9) (ρ 10) (ρ 11) w) 0 ((b5_eq R ρ w).mp h) (fun ρ w h=>k6_ok R ρ w h)
theorem k2_ok (R:EP) (ρ:Env) (w:World) (h:b5 R (ρ 0) (ρ 1) (ρ 5) (ρ 6) (ρ 8) (ρ 9) (ρ 10) w):codeP Tryd.prog (pan R) p1 (q1 R) ρ w:=by
 have e:Code.seq (fstC p1) (sndC p1)=p1:=by kernel_rfl
 rw [←e]
 exact seqQ (fun ρ w=>b3 R (ρ 0) (ρ 5) (ρ 8) (ρ 9) (ρ 10) w) (b5_ok R ρ w h) (fun ρ w h=>b3_ok R ρ w h)
def b1_1 (R:EP) (x0 x1 v1 v3:Value) (w4:World) (_r:Tok R:=tok R):Prop :=
 RUN Tryd.prog (pan R) (Instr.extract v3 0) w4 fun v5 w6 =>
 RUN Tryd.prog (pan R) (Instr.extract v3 1) w6 fun v7 w8 =>
 RUN Tryd.prog (pan R) (bins .geq 3 (.tmp 24) (.const (Go.Value.int Go.IntKind.i64 0)) v7 (Go.Value.int Go.IntKind.i64 0)) w8 fun v9 w10 =>
 SPL v9
 (R (.returned v1) w10)
 (CALL Tryd.prog (pan R) spec_Bad.id #[x0] w10 fun v11 w12 =>
 b5 R x0 x1 v1 v5 (Go.Value.string {data:=#[] }) (Go.Value.int Go.IntKind.i64 (-1)) v11 w12)

def b1 (R:EP) (x0 x1:Value) (w:World) (_r:Tok R:=tok R):Prop :=
 CALL Tryd.prog (pan R) law04_awake.id #[] w fun v1 w2 =>
 CALL Tryd.prog (pan R) ref03_All.id #[x0] w2 fun v3 w4 =>
 b1_1 R x0 x1 v1 v3 w4
abbrev q13 (R:EP):XP:=QX (fun ρ w=>b5 R (ρ 0) (ρ 1) (ρ 5) (ρ 6) (ρ 8) (ρ 9) (ρ 10) w) (fun ρ w=>R (.returned (ρ 4)) w) []
theorem b1_eq (R:EP) (ρ:Env) (w:World):(b1 R (ρ 0) (ρ 1) w)=codeP Tryd.prog (pan R) (preC 6 code) (q13 R) ρ w:=by kernel_rfl
theorem b1_ok (R:EP) (ρ:Env) (w:World) (h:b1 R (ρ 0) (ρ 1) w):codeP Tryd.prog (pan R) code (q1 R) ρ w:=by
 have e:appC 6 (preC 6 code) (dropC 7 code)=code:=by kernel_rfl
 rw [←e]
 exact appQ (fun ρ w=>b5 R (ρ 0) (ρ 1) (ρ 5) (ρ 6) (ρ 8) (ρ 9) (ρ 10) w) 6 ((b1_eq R ρ w).mp h) (fun ρ w h=>k2_ok R ρ w h)
/-- What is owed for a call. -/
def run (R:EP) (a0 a1:Value) (w:World):Prop:=b1 R a0 a1 w
theorem calls (R:EP) (a0 a1:Value) (w:World) (h:run R a0 a1 w):Calls Tryd.prog id #[a0,a1] w R :=
 calls_of_t (f:=id) (fn:=Tryd.f4) (c:=code) (by kernel_rfl) Tryd.func4 (by kernel_rfl) (by kernel_rfl) (args:=[a0,a1]) (Nat.le_of_ble_eq_true rfl) rfl (b1_ok R (envOf [a0,a1]) w h)
theorem enters:Enters Tryd.prog id:=fun args w=>Tryd.call4 args w
theorem ct {a0 a1:Value} {w:World} {S:VP} (h:∀R:EP,(∀v w,S v w→R (.returned v) w)→run R a0 a1 w):Ct Tryd.prog id #[a0,a1] w S :=
 Ct.intro enters fun R hR=>calls R a0 a1 w (h R hR)
attribute [irreducible] b4_1 b4_2 b4_3 b4_4 b4_5 b4 b3_1 b3 b10 b14 b13_1 b13 b12_1 b12 b16 b15_1 b15 l7 b5 b1_1 b1 run
attribute [go_sem] b4_1 b4_2 b4_3 b4_4 b4_5 b4 b3_1 b3 b10 b14 b13_1 b13 b12_1 b12 b16 b15_1 b15 b5 b1_1 b1 run
end law04_SpecSpread

/-! ### presage/presagelaw04.awake -/
namespace law04_awake
noncomputable def code:Code:=bodyOf Tryd.f11
def b1_1 (R:EP) (w58:World) (_r:Tok R:=tok R):Prop :=
 CALL Tryd.prog (pan R) spec_Bad.id #[(Go.Value.string {data:=#[] })] w58 fun v59 w60 =>
 RUN Tryd.prog (pan R) (bins .eql 3 (.tmp 39) (.const (Go.Value.int Go.IntKind.i64 0)) v59 (Go.Value.int Go.IntKind.i64 0)) w60 fun v61 w62 =>
 R (.returned v61) w62
def b1_2 (R:EP) (v21:Value) (w52:World) (_r:Tok R:=tok R):Prop :=
 RUN Tryd.prog (pan R) (Instr.fieldAt 31 v21 1) w52 fun v53 w54 =>
 RUN Tryd.prog (pan R) (Instr.loadAt 3 v53) w54 fun v55 w56 =>
 RUN Tryd.prog (pan R) (bins .eql 3 (.tmp 35) (.const (Go.Value.int Go.IntKind.i64 3)) v55 (Go.Value.int Go.IntKind.i64 3)) w56 fun v57 w58 =>
 SPL v57
 (b1_1 R w58)
 (R (.returned (Go.Value.bool Bool.false)) w58)
def b1_3 (R:EP) (v21:Value) (w46:World) (_r:Tok R:=tok R):Prop :=
 RUN Tryd.prog (pan R) (Instr.fieldAt 31 v21 0) w46 fun v47 w48 =>
 RUN Tryd.prog (pan R) (Instr.loadAt 29 v47) w48 fun v49 w50 =>
 RUN Tryd.prog (pan R) (bins .eql 29 (.tmp 30) (.const (Go.Value.int Go.IntKind.i64 10)) v49 (Go.Value.int Go.IntKind.i64 10)) w50 fun v51 w52 =>
 SPL v51
 (b1_2 R v21 w52)
 (R (.returned (Go.Value.bool Bool.false)) w52)
def b1_4 (R:EP) (v7 v21:Value) (w38:World) (_r:Tok R:=tok R):Prop :=
 RUN Tryd.prog (pan R) (Instr.fieldAt 28 v7 0) w38 fun v39 w40 =>
 RUN Tryd.prog (pan R) (Instr.loadAt 23 v39) w40 fun v41 w42 =>
 RUN Tryd.prog (pan R) (Builtin.len_ #[23] 3 #[v41]) w42 fun v43 w44 =>
 RUN Tryd.prog (pan R) (bins .eql 3 (.tmp 25) (.const (Go.Value.int Go.IntKind.i64 3)) v43 (Go.Value.int Go.IntKind.i64 3)) w44 fun v45 w46 =>
 SPL v45
 (b1_3 R v21 w46)
 (R (.returned (Go.Value.bool Bool.false)) w46)
def b1_5 (R:EP) (v7 v21:Value) (w30:World) (_r:Tok R:=tok R):Prop :=
 RUN Tryd.prog (pan R) (Instr.fieldAt 28 v7 4) w30 fun v31 w32 =>
 RUN Tryd.prog (pan R) (Instr.loadAt 26 v31) w32 fun v33 w34 =>
 RUN Tryd.prog (pan R) (Builtin.len_ #[26] 3 #[v33]) w34 fun v35 w36 =>
 RUN Tryd.prog (pan R) (bins .eql 3 (.tmp 19) (.const (Go.Value.int Go.IntKind.i64 2)) v35 (Go.Value.int Go.IntKind.i64 2)) w36 fun v37 w38 =>
 SPL v37
 (b1_4 R v7 v21 w38)
 (R (.returned (Go.Value.bool Bool.false)) w38)
def b1_6 (R:EP) (v7 v9 v13:Value) (w14:World) (_r:Tok R:=tok R):Prop :=
 RUN Tryd.prog (pan R) (Instr.extract v13 0) w14 fun v15 w16 =>
 RUN Tryd.prog (pan R) (Instr.extract v13 1) w16 fun v17 w18 =>
 RUN Tryd.prog (pan R) (Instr.alloc 28 true (.tuple #[])) w18 fun v19 w20 =>
 RUN Tryd.prog (pan R) (Instr.alloc 31 true (.tuple #[])) w20 fun v21 w22 =>
 RUNU Tryd.prog (pan R) (Instr.storeAt 28 v19 v15) w22 fun w23 =>
 RUNU Tryd.prog (pan R) (Instr.storeAt 31 v21 v17) w23 fun w24 =>
 RUN Tryd.prog (pan R) (Instr.fieldAt 31 v9 0) w24 fun v25 w26 =>
 RUN Tryd.prog (pan R) (Instr.loadAt 29 v25) w26 fun v27 w28 =>
 RUN Tryd.prog (pan R) (bins .eql 29 (.tmp 14) (.const (Go.Value.int Go.IntKind.i64 0)) v27 (Go.Value.int Go.IntKind.i64 0)) w28 fun v29 w30 =>
 SPL v29
 (b1_5 R v7 v21 w30)
 (R (.returned (Go.Value.bool Bool.false)) w30)
def b1_7 (R:EP) (v1:Value) (w2:World) (_r:Tok R:=tok R):Prop :=
 RUN Tryd.prog (pan R) (Instr.extract v1 0) w2 fun v3 w4 =>
 RUN Tryd.prog (pan R) (Instr.extract v1 1) w4 fun v5 w6 =>
 RUN Tryd.prog (pan R) (Instr.alloc 28 true (.tuple #[])) w6 fun v7 w8 =>
 RUN Tryd.prog (pan R) (Instr.alloc 31 true (.tuple #[])) w8 fun v9 w10 =>
 RUNU Tryd.prog (pan R) (Instr.storeAt 28 v7 v3) w10 fun w11 =>
 RUNU Tryd.prog (pan R) (Instr.storeAt 31 v9 v5) w11 fun w12 =>
 CALL Tryd.prog (pan R) spec_Read.id #[(Go.Value.string {data:=#[115,32,58] })] w12 fun v13 w14 =>
 b1_6 R v7 v9 v13 w14

def b1 (R:EP) (w:World) (_r:Tok R:=tok R):Prop :=
 CALL Tryd.prog (pan R) spec_Read.id #[(Go.Value.string {data:=#[101,32,58,32,101,32,39,43,39,32,110,32,124,32,110,32,59] })] w fun v1 w2 =>
 b1_7 R v1 w2
abbrev q1 (R:EP):XP:=QX (fun ρ w=>R (.returned (ρ 0)) w) (fun ρ w=>R (.returned (ρ 0)) w) []
theorem b1_eq (R:EP) (ρ:Env) (w:World):(b1 R w)=codeP Tryd.prog (pan R) code (q1 R) ρ w:=by kernel_rfl
theorem b1_ok (R:EP) (ρ:Env) (w:World) (h:b1 R w):codeP Tryd.prog (pan R) code (q1 R) ρ w:=(b1_eq R ρ w).mp h
/-- What is owed for a call. -/
def run (R:EP) (w:World):Prop:=b1 R w
theorem calls (R:EP) (w:World) (h:run R w):Calls Tryd.prog id #[] w R :=
 calls_of_t (f:=id) (fn:=Tryd.f11) (c:=code) (by kernel_rfl) Tryd.func11 (by kernel_rfl) (by kernel_rfl) (args:=[]) (Nat.le_of_ble_eq_true rfl) rfl (b1_ok R (envOf []) w h)
theorem enters:Enters Tryd.prog id:=fun args w=>Tryd.call11 args w
theorem ct {w:World} {S:VP} (h:∀R:EP,(∀v w,S v w→R (.returned v) w)→run R w):Ct Tryd.prog id #[] w S :=
 Ct.intro enters fun R hR=>calls R w (h R hR)
attribute [irreducible] b1_1 b1_2 b1_3 b1_4 b1_5 b1_6 b1_7 b1 run
attribute [go_sem] b1_1 b1_2 b1_3 b1_4 b1_5 b1_6 b1_7 b1 run
end law04_awake

/-! ### presage/presagelaw04.gap -/
namespace law04_gap
noncomputable def code:Code:=bodyOf Tryd.f18
noncomputable abbrev p1:Code:=dropC 3 code
def b2 (R:EP) (x0 x3:Value) (w:World) (_r:Tok R:=tok R):Prop :=
 RUN Tryd.prog (pan R) (Builtin.len_ #[24] 3 #[x3]) w fun v1 w2 =>
 RUN Tryd.prog (pan R) (bins .rem 3 (.tmp 11) (.tmp 13) x0 v1) w2 fun v3 w4 =>
 RUN Tryd.prog (pan R) (Instr.indexAt 24 x3 v3) w4 fun v5 w6 =>
 RUN Tryd.prog (pan R) (Instr.loadAt 9 v5) w6 fun v7 w8 =>
 R (.returned v7) w8
abbrev q1 (R:EP):XP:=QX (fun ρ w=>R (.returned (ρ 2)) w) (fun ρ w=>R (.returned (ρ 2)) w) []
theorem b2_eq (R:EP) (ρ:Env) (w:World):(b2 R (ρ 0) (ρ 3) w)=codeP Tryd.prog (pan R) p1 (q1 R) ρ w:=by kernel_rfl
theorem b2_ok (R:EP) (ρ:Env) (w:World) (h:b2 R (ρ 0) (ρ 3) w):codeP Tryd.prog (pan R) p1 (q1 R) ρ w:=(b2_eq R ρ w).mp h
def b1_1 (R:EP) (x0 v1:Value) (w4:World) (_r:Tok R:=tok R):Prop :=
 RUN Tryd.prog (pan R) (bins .add 3 (.tmp 7) (.const (Go.Value.int Go.IntKind.i64 1)) x0 (Go.Value.int Go.IntKind.i64 1)) w4 fun v5 w6 =>
 RUN Tryd.prog (pan R) (Op.unary .neg v5) w6 fun v7 w8 =>
 b2 R v7 v1 w8
def b1 (R:EP) (x0:Value) (w:World) (_r:Tok R:=tok R):Prop :=
 RUN Tryd.prog (pan R) (Instr.buildSlice 24 6 #[(0,(Go.Value.string {data:=#[32] })),(1,(Go.Value.string {data:=#[10] })),(2,(Go.Value.string {data:=#[9,32] })),(3,(Go.Value.string {data:=#[32,35,32,97,32,39,98,32,58,32,59,10] })),(4,(Go.Value.string {data:=#[13,10,10] })),(5,(Go.Value.string {data:=#[35,10] }))]) w fun v1 w2 =>
 RUN Tryd.prog (pan R) (bins .lss 3 (.tmp 5) (.const (Go.Value.int Go.IntKind.i64 0)) x0 (Go.Value.int Go.IntKind.i64 0)) w2 fun v3 w4 =>
 SPL v3
 (b1_1 R x0 v1 w4)
 (b2 R x0 v1 w4)
abbrev q2 (R:EP):XP:=QX (fun ρ w=>b2 R (ρ 0) (ρ 3) w) (fun ρ w=>R (.returned (ρ 2)) w) []
theorem b1_eq (R:EP) (ρ:Env) (w:World):(b1 R (ρ 0) w)=codeP Tryd.prog (pan R) (preC 2 code) (q2 R) ρ w:=by kernel_rfl
theorem b1_ok (R:EP) (ρ:Env) (w:World) (h:b1 R (ρ 0) w):codeP Tryd.prog (pan R) code (q1 R) ρ w:=by
 have e:appC 2 (preC 2 code) (dropC 3 code)=code:=by kernel_rfl
 rw [←e]
 exact appQ (fun ρ w=>b2 R (ρ 0) (ρ 3) w) 2 ((b1_eq R ρ w).mp h) (fun ρ w h=>b2_ok R ρ w h)
/-- What is owed for a call. -/
def run (R:EP) (a0:Value) (w:World):Prop:=b1 R a0 w
theorem calls (R:EP) (a0:Value) (w:World) (h:run R a0 w):Calls Tryd.prog id #[a0] w R :=
 calls_of_t (f:=id) (fn:=Tryd.f18) (c:=code) (by kernel_rfl) Tryd.func18 (by kernel_rfl) (by kernel_rfl) (args:=[a0]) (Nat.le_of_ble_eq_true rfl) rfl (b1_ok R (envOf [a0]) w h)
theorem enters:Enters Tryd.prog id:=fun args w=>Tryd.call18 args w
theorem ct {a0:Value} {w:World} {S:VP} (h:∀R:EP,(∀v w,S v w→R (.returned v) w)→run R a0 w):Ct Tryd.prog id #[a0] w S :=
 Ct.intro enters fun R hR=>calls R a0 w (h R hR)
attribute [irreducible] b2 b1_1 b1 run
attribute [go_sem] b2 b1_1 b1 run
end law04_gap

/-! ### presage/presagelaw04.written -/
namespace law04_written
noncomputable def code:Code:=bodyOf Tryd.f19
def b1_1 (R:EP) (v1:Value) (w8:World) (_r:Tok R:=tok R):Prop :=
 RUN Tryd.prog (pan R) (Instr.fieldAt 46 v1 1) w8 fun v9 w10 =>
 RUN Tryd.prog (pan R) (Instr.loadAt 9 v9) w10 fun v11 w12 =>
 RUN Tryd.prog (pan R) (bins .add 9 (.const (Go.Value.string {data:=#[39] })) (.tmp 7) (Go.Value.string {data:=#[39] }) v11) w12 fun v13 w14 =>
 RUN Tryd.prog (pan R) (bins .add 9 (.tmp 8) (.const (Go.Value.string {data:=#[39] })) v13 (Go.Value.string {data:=#[39] })) w14 fun v15 w16 =>
 R (.returned v15) w16
def b1_2 (R:EP) (v1:Value) (w8:World) (_r:Tok R:=tok R):Prop :=
 RUN Tryd.prog (pan R) (Instr.fieldAt 46 v1 1) w8 fun v17 w18 =>
 RUN Tryd.prog (pan R) (Instr.loadAt 9 v17) w18 fun v19 w20 =>
 R (.returned v19) w20
def b1 (R:EP) (x0:Value) (w:World) (_r:Tok R:=tok R):Prop :=
 RUN Tryd.prog (pan R) (Instr.box 46 x0) w fun v1 w2 =>
 RUN Tryd.prog (pan R) (Instr.fieldAt 46 v1 0) w2 fun v3 w4 =>
 RUN Tryd.prog (pan R) (Instr.loadAt 3 v3) w4 fun v5 w6 =>
 RUN Tryd.prog (pan R) (bins .eql 3 (.tmp 4) (.const (Go.Value.int Go.IntKind.i64 2)) v5 (Go.Value.int Go.IntKind.i64 2)) w6 fun v7 w8 =>
 SPL v7
 (b1_1 R v1 w8)
 (b1_2 R v1 w8)
abbrev q1 (R:EP):XP:=QX (fun ρ w=>R (.returned (ρ 2)) w) (fun ρ w=>R (.returned (ρ 2)) w) []
theorem b1_eq (R:EP) (ρ:Env) (w:World):(b1 R (ρ 0) w)=codeP Tryd.prog (pan R) code (q1 R) ρ w:=by kernel_rfl
theorem b1_ok (R:EP) (ρ:Env) (w:World) (h:b1 R (ρ 0) w):codeP Tryd.prog (pan R) code (q1 R) ρ w:=(b1_eq R ρ w).mp h
/-- What is owed for a call. -/
def run (R:EP) (a0:Value) (w:World):Prop:=b1 R a0 w
theorem calls (R:EP) (a0:Value) (w:World) (h:run R a0 w):Calls Tryd.prog id #[a0] w R :=
 calls_of_t (f:=id) (fn:=Tryd.f19) (c:=code) (by kernel_rfl) Tryd.func19 (by kernel_rfl) (by kernel_rfl) (args:=[a0]) (Nat.le_of_ble_eq_true rfl) rfl (b1_ok R (envOf [a0]) w h)
theorem enters:Enters Tryd.prog id:=fun args w=>Tryd.call19 args w
theorem ct {a0:Value} {w:World} {S:VP} (h:∀R:EP,(∀v w,S v w→R (.returned v) w)→run R a0 w):Ct Tryd.prog id #[a0] w S :=
 Ct.intro enters fun R hR=>calls R a0 w (h R hR)
attribute [irreducible] b1_1 b1_2 b1 run
attribute [go_sem] b1_1 b1_2 b1 run
end law04_written

end Go.Proofs.YtckbgeedlobfaaaDoor
