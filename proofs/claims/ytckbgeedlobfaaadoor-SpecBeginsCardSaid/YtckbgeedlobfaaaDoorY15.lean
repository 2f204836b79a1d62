/- Shallow programs, written by a program of ours (gen.py) off the translation; each is tied to the code by the kernel. -/
import Derived.Test.YtckbgeedlobfaaaDoorY04
set_option linter.unusedVariables false
set_option maxRecDepth 100000
namespace Go.Proofs.YtckbgeedlobfaaaDoor
open Go.Px

/-! ### presage/presagelaw04.SpecBegins -/
namespace law04_SpecBegins
noncomputable def code:Code:=bodyOf Tryd.f5
noncomputable abbrev p1:Code:=dropC 5 code
noncomputable abbrev p2:Code:=sndC (sndC p1)
def b4_1 (R:EP) (x0 x6:Value) (w2:World) (_r:Tok R:=tok R):Prop :=
 RUN Tryd.prog (pan R) (Builtin.len_ #[9] 3 #[x0]) w2 fun v3 w4 =>
 RUN Tryd.prog (pan R) (bins .eql 3 (.tmp 101) (.tmp 103) x6 v3) w4 fun v5 w6 =>
 R (.returned v5) w6

def b4 (R:EP) (x0 x5 x6:Value) (w:World) (_r:Tok R:=tok R):Prop :=
 SPL x5
 (RUN Tryd.prog (pan R) (bins .eql 3 (.tmp 98) (.const (Go.Value.int Go.IntKind.i64 (-1))) x6 (Go.Value.int Go.IntKind.i64 (-1))) w fun v1 w2 =>
 SPL v1
 (R (.returned (Go.Value.bool Bool.true)) w2)
 (b4_1 R x0 x6 w2))
 (R (.returned (Go.Value.bool Bool.false)) w)
abbrev q1 (R:EP):XP:=QX (fun ρ w=>R (.returned (ρ 4)) w) (fun ρ w=>R (.returned (ρ 4)) w) []
theorem b4_eq (R:EP) (ρ:Env) (w:World):(b4 R (ρ 0) (ρ 5) (ρ 6) w)=codeP Tryd.prog (pan R) p2 (q1 R) ρ w:=by kernel_rfl
theorem b4_ok (R:EP) (ρ:Env) (w:World) (h:b4 R (ρ 0) (ρ 5) (ρ 6) w):codeP Tryd.prog (pan R) p2 (q1 R) ρ w:=(b4_eq R ρ w).mp h
noncomputable abbrev p3:Code:=fstC (sndC p1)
noncomputable abbrev p4:Code:=dropC 1 p3
def b6_1 (R:EP) (x6 v5:Value) (w10:World) (_r:Tok R:=tok R):Prop :=
 CALL Tryd.prog (pan R) spec_Bad.id #[v5] w10 fun v11 w12 =>
 RUN Tryd.prog (pan R) (bins .eql 3 (.tmp 91) (.tmp 92) v11 x6) w12 fun v13 w14 =>
 R (.returned v13) w14
def b6_2 (R:EP) (x6 v5:Value) (w6:World) (_r:Tok R:=tok R):Prop :=
 RUN Tryd.prog (pan R) (Builtin.len_ #[9] 3 #[v5]) w6 fun v7 w8 =>
 RUN Tryd.prog (pan R) (bins .gtr 3 (.tmp 87) (.const (Go.Value.int Go.IntKind.i64 8192)) v7 (Go.Value.int Go.IntKind.i64 8192)) w8 fun v9 w10 =>
 SPL v9
 (R (.returned (Go.Value.bool Bool.true)) w10)
 (b6_1 R x6 v5 w10)
def b6_3 (R:EP) (x0 x1 x5 x6:Value) (w:World) (_r:Tok R:=tok R):Prop :=
 RUN Tryd.prog (pan R) (bins .add 3 (.tmp 79) (.const (Go.Value.int Go.IntKind.i64 1)) x6 (Go.Value.int Go.IntKind.i64 1)) w fun v1 w2 =>
 RUN Tryd.prog (pan R) (Instr.sliceAt 9 x0 none (some v1) none) w2 fun v3 w4 =>
 RUN Tryd.prog (pan R) (bins .add 9 (.tmp 81) (.tmp 82) v3 x1) w4 fun v5 w6 =>
 SPL x5
 (b6_2 R x6 v5 w6)
 (R (.returned (Go.Value.bool Bool.false)) w6)

def b6 (R:EP) (x0 x1 x5 x6 x77:Value) (w:World) (_r:Tok R:=tok R):Prop :=
 SPL x77
 (b6_3 R x0 x1 x5 x6 w)
 (b4 R x0 x5 x6 w)
abbrev q2 (R:EP):XP:=QX (fun ρ w=>b4 R (ρ 0) (ρ 5) (ρ 6) w) (fun ρ w=>R (.returned (ρ 4)) w) []
theorem b6_eq (R:EP) (ρ:Env) (w:World):(b6 R (ρ 0) (ρ 1) (ρ 5) (ρ 6) (ρ 77) w)=codeP Tryd.prog (pan R) p4 (q2 R) ρ w:=by kernel_rfl
theorem b6_ok (R:EP) (ρ:Env) (w:World) (h:b6 R (ρ 0) (ρ 1) (ρ 5) (ρ 6) (ρ 77) w):codeP Tryd.prog (pan R) p4 (q2 R) ρ w:=(b6_eq R ρ w).mp h
def b5_1 (R:EP) (x0 x1 x5 x6:Value) (w4:World) (_r:Tok R:=tok R):Prop :=
 RUN Tryd.prog (pan R) (Builtin.len_ #[9] 3 #[x0]) w4 fun v5 w6 =>
 RUN Tryd.prog (pan R) (bins .lss 3 (.tmp 73) (.tmp 75) x6 v5) w6 fun v7 w8 =>
 b6 R x0 x1 x5 x6 v7 w8

def b5 (R:EP) (x0 x1 x5 x6 x8:Value) (w:World) (_r:Tok R:=tok R):Prop :=
 RUN Tryd.prog (pan R) (bins .geq 3 (.tmp 65) (.const (Go.Value.int Go.IntKind.i64 0)) x6 (Go.Value.int Go.IntKind.i64 0)) w fun v1 w2 =>
 SPL v1
 (RUN Tryd.prog (pan R) (bins .eql 3 (.tmp 68) (.tmp 69) x6 x8) w2 fun v3 w4 =>
 SPL v3
 (b5_1 R x0 x1 x5 x6 w4)
 (b6 R x0 x1 x5 x6 (Go.Value.bool Bool.false) w4))
 (b6 R x0 x1 x5 x6 (Go.Value.bool Bool.false) w2)
abbrev q3 (R:EP):XP:=QX (fun ρ w=>b6 R (ρ 0) (ρ 1) (ρ 5) (ρ 6) (ρ 77) w) (fun ρ w=>R (.returned (ρ 4)) w) []
theorem b5_eq (R:EP) (ρ:Env) (w:World):(b5 R (ρ 0) (ρ 1) (ρ 5) (ρ 6) (ρ 8) w)=codeP Tryd.prog (pan R) (preC 0 p3) (q3 R) ρ w:=by kernel_rfl
theorem b5_ok (R:EP) (ρ:Env) (w:World) (h:b5 R (ρ 0) (ρ 1) (ρ 5) (ρ 6) (ρ 8) w):codeP Tryd.prog (pan R) p3 (q2 R) ρ w:=by
 have e:appC 0 (preC 0 p3) (dropC 1 p3)=p3:=by kernel_rfl
 rw [←e]
 exact appQ (fun ρ w=>b6 R (ρ 0) (ρ 1) (ρ 5) (ρ 6) (ρ 77) w) 0 ((b5_eq R ρ w).mp h) (fun ρ w h=>b6_ok R ρ w h)
theorem k3_ok (R:EP) (ρ:Env) (w:World) (h:b5 R (ρ 0) (ρ 1) (ρ 5) (ρ 6) (ρ 8) w):codeP Tryd.prog (pan R) (sndC p1) (q1 R) ρ w:=by
 have e:Code.seq (fstC (sndC p1)) (sndC (sndC p1))=(sndC p1):=by kernel_rfl
 rw [←e]
 exact seqQ (fun ρ w=>b4 R (ρ 0) (ρ 5) (ρ 6) w) (b5_ok R ρ w h) (fun ρ w h=>b4_ok R ρ w h)
noncomputable abbrev p5:Code:=dropC 1 (fstC p1)
noncomputable abbrev p6:Code:=loopC (blkC p5)
def b10_1 (R:EP) (x6 v22:Value) (w26:World) (_r:Tok R:=tok R):Prop :=
 CALL Tryd.prog (pan R) spec_Bad.id #[v22] w26 fun v27 w28 =>
 RUN Tryd.prog (pan R) (bins .eql 3 (.tmp 61) (.tmp 62) v27 x6) w28 fun v29 w30 =>
 R (.returned v29) w30
def b10_2 (R:EP) (x1 x5 x6 v15 v18:Value) (w19:World) (_r:Tok R:=tok R):Prop :=
 PUR Tryd.prog (bins .add 9 (.tmp 44) (.tmp 49) v15 v18) fun v20 =>
 PUR Tryd.prog (bins .add 9 (.tmp 50) (.const (Go.Value.string {data:=#[32] })) v20 (Go.Value.string {data:=#[32] })) fun v21 =>
 PUR Tryd.prog (bins .add 9 (.tmp 51) (.tmp 52) v21 x1) fun v22 =>
 RUN Tryd.prog (pan R) (Builtin.len_ #[9] 3 #[v22]) w19 fun v23 w24 =>
 RUN Tryd.prog (pan R) (bins .gtr 3 (.tmp 55) (.const (Go.Value.int Go.IntKind.i64 8192)) v23 (Go.Value.int Go.IntKind.i64 8192)) w24 fun v25 w26 =>
 SPL v25
 (R (.returned x5) w26)
 (SPL x5
 (b10_1 R x6 v22 w26)
 (R (.returned (Go.Value.bool Bool.false)) w26))
def b10_3 (R:EP) (x0 x1 x5 x6 x7 x9:Value) (w12:World) (_r:Tok R:=tok R):Prop :=
 PUR Tryd.prog (Instr.sliceAt 9 x0 none (some x6) none) fun v15 =>
 PUR Tryd.prog (Instr.indexAt 41 x7 x9) fun v16 =>
 LD Tryd.prog (Instr.loadAt 46 v16) (World.drew w12) fun v17 =>
 CALL Tryd.prog (pan R) law04_written.id #[v17] (World.drew w12) fun v18 w19 =>
 b10_2 R x1 x5 x6 v15 v18 w19
def b10_4 (R:EP) (C9:VP) (x0 x1 x5 x6 x7 x9:Value) (w4:World) (_r:Tok R:=tok R) (_C9:Tok C9:=tok C9):Prop :=
 RUN Tryd.prog (pan R) (Instr.indexAt 41 x7 x9) w4 fun v5 w6 =>
 RUN Tryd.prog (pan R) (Instr.fieldAt 46 v5 2) w6 fun v7 w8 =>
 RUN Tryd.prog (pan R) (Instr.loadAt 3 v7) w8 fun v9 w10 =>
 RUN Tryd.prog (pan R) (bins .neq 3 (.tmp 39) (.tmp 40) v9 x6) w10 fun v11 w12 =>
 SPL v11
 (RUN Tryd.prog (pan R) (bins .add 3 (.tmp 33) (.const (Go.Value.int Go.IntKind.i64 1)) x9 (Go.Value.int Go.IntKind.i64 1)) w12 fun v13 w14 =>
 C9 v13 w14)
 (b10_3 R x0 x1 x5 x6 x7 x9 w12)

def b10 (R:EP) (C9:VP) (x0 x1 x5 x6 x7 x8 x9:Value) (w:World) (_r:Tok R:=tok R) (_C9:Tok C9:=tok C9):Prop :=
 RUN Tryd.prog (pan R) (Builtin.len_ #[41] 3 #[x7]) w fun v1 w2 =>
 RUN Tryd.prog (pan R) (bins .lss 3 (.tmp 29) (.tmp 31) x9 v1) w2 fun v3 w4 =>
 SPL v3
 (b10_4 R C9 x0 x1 x5 x6 x7 x9 w4)
 (b5 R x0 x1 x5 x6 x8 w4)
abbrev q4 (R:EP) (C9:VP):XP:=QX (fun ρ w=>C9 (ρ 9) w) (fun ρ w=>R (.returned (ρ 4)) w) [(0,(fun ρ w=>b5 R (ρ 0) (ρ 1) (ρ 5) (ρ 6) (ρ 8) w))]
theorem b10_eq (R:EP) (C9:VP) (ρ:Env) (w:World):(b10 R C9 (ρ 0) (ρ 1) (ρ 5) (ρ 6) (ρ 7) (ρ 8) (ρ 9) w)=codeP Tryd.prog (pan R) p6 (q4 R C9) ρ w:=by kernel_rfl
theorem b10_ok (R:EP) (C9:VP) (ρ:Env) (w:World) (h:b10 R C9 (ρ 0) (ρ 1) (ρ 5) (ρ 6) (ρ 7) (ρ 8) (ρ 9) w):codeP Tryd.prog (pan R) p6 (q4 R C9) ρ w:=(b10_eq R C9 ρ w).mp h

def l9 (R:EP) (x0 x1 x5 x6 x7 x8 x9:Value) (w:World) (_r:Tok R:=tok R):Prop :=
 ∃(J:VP) (μ:Value→World→Nat),J x9 w∧∀y9 w0,J y9 w0→b10 R (fun z9 w1=>J z9 w1∧μ z9 w1<μ y9 w0) x0 x1 x5 x6 x7 x8 y9 w0
abbrev q5 (R:EP):XP:=QX (fun ρ w=>b5 R (ρ 0) (ρ 1) (ρ 5) (ρ 6) (ρ 8) w) (fun ρ w=>R (.returned (ρ 4)) w) [(0,(fun ρ w=>b5 R (ρ 0) (ρ 1) (ρ 5) (ρ 6) (ρ 8) w))]
theorem l9_ok (R:EP) (ρ:Env) (w:World) (h:l9 R (ρ 0) (ρ 1) (ρ 5) (ρ 6) (ρ 7) (ρ 8) (ρ 9) w):codeP Tryd.prog (pan R) (blkC p5) (q5 R) ρ w:=by
 unfold l9 at h
 obtain ⟨J,μ,h0,hr⟩:=h
 have e:Code.loop (loopC (blkC p5))=(blkC p5):=by kernel_rfl
 rw [←e]
 refine loopQ (fun ρ' w'=>J (ρ' 9) w') (fun ρ' w'=>μ (ρ' 9) w') h0 fun ρ' w' hA hI=>?_
 have e0:ρ' 0=ρ 0:=Agree.at hA 0 (by kernel_rfl)
 have e1:ρ' 1=ρ 1:=Agree.at hA 1 (by kernel_rfl)
 have e5:ρ' 5=ρ 5:=Agree.at hA 5 (by kernel_rfl)
 have e6:ρ' 6=ρ 6:=Agree.at hA 6 (by kernel_rfl)
 have e7:ρ' 7=ρ 7:=Agree.at hA 7 (by kernel_rfl)
 have e8:ρ' 8=ρ 8:=Agree.at hA 8 (by kernel_rfl)
 have h1:=hr (ρ' 9) w' hI
 rw [←e0,←e1,←e5,←e6,←e7,←e8] at h1
 exact b10_ok R (fun z9 w1=>J z9 w1∧μ z9 w1<μ (ρ' 9) w') ρ' w' h1
theorem l9_intro (R:EP) (x0 x1 x5 x6 x7 x8 x9:Value) (w:World) (J:VP) (μ:Value→World→Nat) (h0:J x9 w)
  (hr:∀y9 w0,J y9 w0→∀C9:VP,(∀z9 w1,J z9 w1→μ z9 w1<μ y9 w0→C9 z9 w1)→b10 R C9 x0 x1 x5 x6 x7 x8 y9 w0):l9 R x0 x1 x5 x6 x7 x8 x9 w:=by
 unfold l9
 exact ⟨J,μ,h0,fun y9 w0 hJ=>hr y9 w0 hJ _ (fun z9 w1 h1 h2=>⟨h1,h2⟩)⟩
abbrev q6 (R:EP):XP:=QX (fun ρ w=>b5 R (ρ 0) (ρ 1) (ρ 5) (ρ 6) (ρ 8) w) (fun ρ w=>R (.returned (ρ 4)) w) []
theorem k8_ok (R:EP) (ρ:Env) (w:World) (h:l9 R (ρ 0) (ρ 1) (ρ 5) (ρ 6) (ρ 7) (ρ 8) (ρ 9) w):codeP Tryd.prog (pan R) p5 (q6 R) ρ w:=by
 have e:Code.block 0 (blkC p5)=p5:=by kernel_rfl
 rw [←e]
 exact blockQ (l9_ok R ρ w h)

def b7 (R:EP) (x0 x1 x5 x6 x7 x8:Value) (w:World) (_r:Tok R:=tok R):Prop :=
 l9 R x0 x1 x5 x6 x7 x8 (Go.Value.int Go.IntKind.i64 0) w
abbrev q7 (R:EP):XP:=QX (fun ρ w=>l9 R (ρ 0) (ρ 1) (ρ 5) (ρ 6) (ρ 7) (ρ 8) (ρ 9) w) (fun ρ w=>R (.returned (ρ 4)) w) []
theorem b7_eq (R:EP) (ρ:Env) (w:World):(b7 R (ρ 0) (ρ 1) (ρ 5) (ρ 6) (ρ 7) (ρ 8) w)=codeP Tryd.prog (pan R) (preC 0 (fstC p1)) (q7 R) ρ w:=by kernel_rfl
theorem b7_ok (R:EP) (ρ:Env) (w:World) (h:b7 R (ρ 0) (ρ 1) (ρ 5) (ρ 6) (ρ 7) (ρ 8) w):codeP Tryd.prog (pan R) (fstC p1) (q6 R) ρ w:=by
 have e:appC 0 (preC 0 (fstC p1)) (dropC 1 (fstC p1))=(fstC p1):=by kernel_rfl
 rw [←e]
 exact appQ (fun ρ w=>l9 R (ρ 0) (ρ 1) (ρ 5) (ρ 6) (ρ 7) (ρ 8) (ρ 9) w) 0 ((b7_eq R ρ w).mp h) (fun ρ w h=>k8_ok R ρ w h)
theorem k2_ok (R:EP) (ρ:Env) (w:World) (h:b7 R (ρ 0) (ρ 1) (ρ 5) (ρ 6) (ρ 7) (ρ 8) w):codeP Tryd.prog (pan R) p1 (q1 R) ρ w:=by
 have e:Code.seq (fstC p1) (sndC p1)=p1:=by kernel_rfl
 rw [←e]
 exact seqQ (fun ρ w=>b5 R (ρ 0) (ρ 1) (ρ 5) (ρ 6) (ρ 8) w) (b7_ok R ρ w h) (fun ρ w h=>k3_ok R ρ w h)
def b1_1 (R:EP) (x0:Value) (w6:World) (_r:Tok R:=tok R):Prop :=
 CALL Tryd.prog (pan R) spec_Bad.id #[x0] w6 fun v7 w8 =>
 RUN Tryd.prog (pan R) (bins .eql 3 (.tmp 19) (.const (Go.Value.int Go.IntKind.i64 8192)) v7 (Go.Value.int Go.IntKind.i64 8192)) w8 fun v9 w10 =>
 R (.returned v9) w10
def b1_2 (R:EP) (x0 x1 v1 v11 v13:Value) (w14:World) (_r:Tok R:=tok R):Prop :=
 RUN Tryd.prog (pan R) (Instr.extract v13 0) w14 fun v15 w16 =>
 RUN Tryd.prog (pan R) (Instr.extract v13 1) w16 fun v17 w18 =>
 b7 R x0 x1 v1 v11 v15 v17 w18
def b1_3 (R:EP) (x0 x1 v1:Value) (w6:World) (_r:Tok R:=tok R):Prop :=
 CALL Tryd.prog (pan R) spec_Bad.id #[x0] w6 fun v11 w12 =>
 CALL Tryd.prog (pan R) ref03_All.id #[x0] w12 fun v13 w14 =>
 b1_2 R x0 x1 v1 v11 v13 w14
def b1_4 (R:EP) (x0 x1 v1:Value) (w2:World) (_r:Tok R:=tok R):Prop :=
 RUN Tryd.prog (pan R) (Builtin.len_ #[9] 3 #[x0]) w2 fun v3 w4 =>
 RUN Tryd.prog (pan R) (bins .gtr 3 (.tmp 14) (.const (Go.Value.int Go.IntKind.i64 8192)) v3 (Go.Value.int Go.IntKind.i64 8192)) w4 fun v5 w6 =>
 SPL v5
 (SPL v1
 (b1_1 R x0 w6)
 (R (.returned (Go.Value.bool Bool.false)) w6))
 (b1_3 R x0 x1 v1 w6)

def b1 (R:EP) (x0 x1:Value) (w:World) (_r:Tok R:=tok R):Prop :=
 CALL Tryd.prog (pan R) law04_awake.id #[] w fun v1 w2 =>
 b1_4 R x0 x1 v1 w2
abbrev q8 (R:EP):XP:=QX (fun ρ w=>b7 R (ρ 0) (ρ 1) (ρ 5) (ρ 6) (ρ 7) (ρ 8) w) (fun ρ w=>R (.returned (ρ 4)) w) []
theorem b1_eq (R:EP) (ρ:Env) (w:World):(b1 R (ρ 0) (ρ 1) w)=codeP Tryd.prog (pan R) (preC 4 code) (q8 R) ρ w:=by kernel_rfl
theorem b1_ok (R:EP) (ρ:Env) (w:World) (h:b1 R (ρ 0) (ρ 1) w):codeP Tryd.prog (pan R) code (q1 R) ρ w:=by
 have e:appC 4 (preC 4 code) (dropC 5 code)=code:=by kernel_rfl
 rw [←e]
 exact appQ (fun ρ w=>b7 R (ρ 0) (ρ 1) (ρ 5) (ρ 6) (ρ 7) (ρ 8) w) 4 ((b1_eq R ρ w).mp h) (fun ρ w h=>k2_ok R ρ w h)
/-- What is owed for a call. -/
def run (R:EP) (a0 a1:Value) (w:World):Prop:=b1 R a0 a1 w
theorem calls (R:EP) (a0 a1:Value) (w:World) (h:run R a0 a1 w):Calls Tryd.prog id #[a0,a1] w R :=
 calls_of_t (f:=id) (fn:=Tryd.f5) (c:=code) (by kernel_rfl) Tryd.func5 (by kernel_rfl) (by kernel_rfl) (args:=[a0,a1]) (Nat.le_of_ble_eq_true rfl) rfl (b1_ok R (envOf [a0,a1]) w h)
theorem enters:Enters Tryd.prog id:=fun args w=>Tryd.call5 args w
theorem ct {a0 a1:Value} {w:World} {S:VP} (h:∀R:EP,(∀v w,S v w→R (.returned v) w)→run R a0 a1 w):Ct Tryd.prog id #[a0,a1] w S :=
 Ct.intro enters fun R hR=>calls R a0 a1 w (h R hR)
attribute [irreducible] b4_1 b4 b6_1 b6_2 b6_3 b6 b5_1 b5 b10_1 b10_2 b10_3 b10_4 b10 l9 b7 b1_1 b1_2 b1_3 b1_4 b1 run
attribute [go_sem] b4_1 b4 b6_1 b6_2 b6_3 b6 b5_1 b5 b10_1 b10_2 b10_3 b10_4 b10 b7 b1_1 b1_2 b1_3 b1_4 b1 run
end law04_SpecBegins

/-! ### presage/presagelaw04.awake -/
namespace law04_awake
noncomputable def code:Code:=bodyOf Tryd.f11
def b1_1 (R:EP) (w58:World) (_r:Tok R:=tok R):Prop :=
 CALL Tryd.prog (pan R) spec_Bad.id #[(Go.Value.string {data:=#[] })] w58 fun v59 w60 =>
 RUN Tryd.prog (pan R) (bins .eql 3 (.tmp 39) (.const (Go.Value.int Go.IntKind.i64 0)) v59 (Go.Value.int Go.IntKind.i64 0)) w60 fun v61 w62 =>
 R (.returned v61) w62
def b1_2 (R:EP) (v21:Value) (w52:World) (_r:Tok R:=tok R):Prop :=
 RUN Tryd.prog (pan R) (Instr.fieldAt 31 v21 1) w52 fun v53 w54 =>
 RUN Tryd.prog (pan R) (Instr.loadAt 3 v53) w54 fun v55 w56 =>
 RUN Tryd.prog (pan R) (bins .eql 3 (.tmp 35) (.const (Go.Value.int Go.IntKind.i64 3)) v55 (Go.Value.int Go.IntKind.i64 3)) w56 fun v57 w58 =>
 SPL v57
 (b1_1 R w58)
 (R (.returned (Go.Value.bool Bool.false)) w58)
def b1_3 (R:EP) (v21:Value) (w46:World) (_r:Tok R:=tok R):Prop :=
 RUN Tryd.prog (pan R) (Instr.fieldAt 31 v21 0) w46 fun v47 w48 =>
 RUN Tryd.prog (pan R) (Instr.loadAt 29 v47) w48 fun v49 w50 =>
 RUN Tryd.prog (pan R) (bins .eql 29 (.tmp 30) (.const (Go.Value.int Go.IntKind.i64 10)) v49 (Go.Value.int Go.IntKind.i64 10)) w50 fun v51 w52 =>
 SPL v51
 (b1_2 R v21 w52)
 (R (.returned (Go.Value.bool Bool.false)) w52)
def b1_4 (R:EP) (v7 v21:Value) (w38:World) (_r:Tok R:=tok R):Prop :=
 RUN Tryd.prog (pan R) (Instr.fieldAt 28 v7 0) w38 fun v39 w40 =>
 RUN Tryd.prog (pan R) (Instr.loadAt 23 v39) w40 fun v41 w42 =>
 RUN Tryd.prog (pan R) (Builtin.len_ #[23] 3 #[v41]) w42 fun v43 w44 =>
 RUN Tryd.prog (pan R) (bins .eql 3 (.tmp 25) (.const (Go.Value.int Go.IntKind.i64 3)) v43 (Go.Value.int Go.IntKind.i64 3)) w44 fun v45 w46 =>
 SPL v45
 (b1_3 R v21 w46)
 (R (.returned (Go.Value.bool Bool.false)) w46)
def b1_5 (R:EP) (v7 v21:Value) (w30:World) (_r:Tok R:=tok R):Prop :=
 RUN Tryd.prog (pan R) (Instr.fieldAt 28 v7 4) w30 fun v31 w32 =>
 RUN Tryd.prog (pan R) (Instr.loadAt 26 v31) w32 fun v33 w34 =>
 RUN Tryd.prog (pan R) (Builtin.len_ #[26] 3 #[v33]) w34 fun v35 w36 =>
 RUN Tryd.prog (pan R) (bins .eql 3 (.tmp 19) (.const (Go.Value.int Go.IntKind.i64 2)) v35 (Go.Value.int Go.IntKind.i64 2)) w36 fun v37 w38 =>
 SPL v37
 (b1_4 R v7 v21 w38)
 (R (.returned (Go.Value.bool Bool.false)) w38)
def b1_6 (R:EP) (v7 v9 v13:Value) (w14:World) (_r:Tok R:=tok R):Prop :=
 RUN Tryd.prog (pan R) (Instr.extract v13 0) w14 fun v15 w16 =>
 RUN Tryd.prog (pan R) (Instr.extract v13 1) w16 fun v17 w18 =>
 RUN Tryd.prog (pan R) (Instr.alloc 28 true (.tuple #[])) w18 fun v19 w20 =>
 RUN Tryd.prog (pan R) (Instr.alloc 31 true (.tuple #[])) w20 fun v21 w22 =>
 RUNU Tryd.prog (pan R) (Instr.storeAt 28 v19 v15) w22 fun w23 =>
 RUNU Tryd.prog (pan R) (Instr.storeAt 31 v21 v17) w23 fun w24 =>
 RUN Tryd.prog (pan R) (Instr.fieldAt 31 v9 0) w24 fun v25 w26 =>
 RUN Tryd.prog (pan R) (Instr.loadAt 29 v25) w26 fun v27 w28 =>
 RUN Tryd.prog (pan R) (bins .eql 29 (.tmp 14) (.const (Go.Value.int Go.IntKind.i64 0)) v27 (Go.Value.int Go.IntKind.i64 0)) w28 fun v29 w30 =>
 SPL v29
 (b1_5 R v7 v21 w30)
 (R (.returned (Go.Value.bool Bool.false)) w30)
def b1_7 (R:EP) (v1:Value) (w2:World) (_r:Tok R:=tok R):Prop :=
 RUN Tryd.prog (pan R) (Instr.extract v1 0) w2 fun v3 w4 =>
 RUN Tryd.prog (pan R) (Instr.extract v1 1) w4 fun v5 w6 =>
 RUN Tryd.prog (pan R) (Instr.alloc 28 true (.tuple #[])) w6 fun v7 w8 =>
 RUN Tryd.prog (pan R) (Instr.alloc 31 true (.tuple #[])) w8 fun v9 w10 =>
 RUNU Tryd.prog (pan R) (Instr.storeAt 28 v7 v3) w10 fun w11 =>
 RUNU Tryd.prog (pan R) (Instr.storeAt 31 v9 v5) w11 fun w12 =>
 CALL Tryd.prog (pan R) spec_Read.id #[(Go.Value.string {data:=#[115,32,58] })] w12 fun v13 w14 =>
 b1_6 R v7 v9 v13 w14

def b1 (R:EP) (w:World) (_r:Tok R:=tok R):Prop :=
 CALL Tryd.prog (pan R) spec_Read.id #[(Go.Value.string {data:=#[101,32,58,32,101,32,39,43,39,32,110,32,124,32,110,32,59] })] w fun v1 w2 =>
 b1_7 R v1 w2
abbrev q1 (R:EP):XP:=QX (fun ρ w=>R (.returned (ρ 0)) w) (fun ρ w=>R (.returned (ρ 0)) w) []
theorem b1_eq (R:EP) (ρ:Env) (w:World):(b1 R w)=codeP Tryd.prog (pan R) code (q1 R) ρ w:=by kernel_rfl
theorem b1_ok (R:EP) (ρ:Env) (w:World) (h:b1 R w):codeP Tryd.prog (pan R) code (q1 R) ρ w:=(b1_eq R ρ w).mp h
/-- What is owed for a call. -/
def run (R:EP) (w:World):Prop:=b1 R w
theorem calls (R:EP) (w:World) (h:run R w):Calls Tryd.prog id #[] w R :=
 calls_of_t (f:=id) (fn:=Tryd.f11) (c:=code) (by kernel_rfl) Tryd.func11 (by kernel_rfl) (by kernel_rfl) (args:=[]) (Nat.le_of_ble_eq_true rfl) rfl (b1_ok R (envOf []) w h)
theorem enters:Enters Tryd.prog id:=fun args w=>Tryd.call11 args w
theorem ct {w:World} {S:VP} (h:∀R:EP,(∀v w,S v w→R (.returned v) w)→run R w):Ct Tryd.prog id #[] w S :=
 Ct.intro enters fun R hR=>calls R w (h R hR)
attribute [irreducible] b1_1 b1_2 b1_3 b1_4 b1_5 b1_6 b1_7 b1 run
attribute [go_sem] b1_1 b1_2 b1_3 b1_4 b1_5 b1_6 b1_7 b1 run
end law04_awake

/-! ### presage/presagelaw04.written -/
namespace law04_written
noncomputable def code:Code:=bodyOf Tryd.f19
def b1_1 (R:EP) (v1:Value) (w8:World) (_r:Tok R:=tok R):Prop :=
 RUN Tryd.prog (pan R) (Instr.fieldAt 46 v1 1) w8 fun v9 w10 =>
 RUN Tryd.prog (pan R) (Instr.loadAt 9 v9) w10 fun v11 w12 =>
 RUN Tryd.prog (pan R) (bins .add 9 (.const (Go.Value.string {data:=#[39] })) (.tmp 7) (Go.Value.string {data:=#[39] }) v11) w12 fun v13 w14 =>
 RUN Tryd.prog (pan R) (bins .add 9 (.tmp 8) (.const (Go.Value.string {data:=#[39] })) v13 (Go.Value.string {data:=#[39] })) w14 fun v15 w16 =>
 R (.returned v15) w16
def b1_2 (R:EP) (v1:Value) (w8:World) (_r:Tok R:=tok R):Prop :=
 RUN Tryd.prog (pan R) (Instr.fieldAt 46 v1 1) w8 fun v17 w18 =>
 RUN Tryd.prog (pan R) (Instr.loadAt 9 v17) w18 fun v19 w20 =>
 R (.returned v19) w20
def b1 (R:EP) (x0:Value) (w:World) (_r:Tok R:=tok R):Prop :=
 RUN Tryd.prog (pan R) (Instr.box 46 x0) w fun v1 w2 =>
 RUN Tryd.prog (pan R) (Instr.fieldAt 46 v1 0) w2 fun v3 w4 =>
 RUN Tryd.prog (pan R) (Instr.loadAt 3 v3) w4 fun v5 w6 =>
 RUN Tryd.prog (pan R) (bins .eql 3 (.tmp 4) (.const (Go.Value.int Go.IntKind.i64 2)) v5 (Go.Value.int Go.IntKind.i64 2)) w6 fun v7 w8 =>
 SPL v7
 (b1_1 R v1 w8)
 (b1_2 R v1 w8)
abbrev q1 (R:EP):XP:=QX (fun ρ w=>R (.returned (ρ 2)) w) (fun ρ w=>R (.returned (ρ 2)) w) []
theorem b1_eq (R:EP) (ρ:Env) (w:World):(b1 R (ρ 0) w)=codeP Tryd.prog (pan R) code (q1 R) ρ w:=by kernel_rfl
theorem b1_ok (R:EP) (ρ:Env) (w:World) (h:b1 R (ρ 0) w):codeP Tryd.prog (pan R) code (q1 R) ρ w:=(b1_eq R ρ w).mp h
/-- What is owed for a call. -/
def run (R:EP) (a0:Value) (w:World):Prop:=b1 R a0 w
theorem calls (R:EP) (a0:Value) (w:World) (h:run R a0 w):Calls Tryd.prog id #[a0] w R :=
 calls_of_t (f:=id) (fn:=Tryd.f19) (c:=code) (by kernel_rfl) Tryd.func19 (by kernel_rfl) (by kernel_rfl) (args:=[a0]) (Nat.le_of_ble_eq_true rfl) rfl (b1_ok R (envOf [a0]) w h)
theorem enters:Enters Tryd.prog id:=fun args w=>Tryd.call19 args w
theorem ct {a0:Value} {w:World} {S:VP} (h:∀R:EP,(∀v w,S v w→R (.returned v) w)→run R a0 w):Ct Tryd.prog id #[a0] w S :=
 Ct.intro enters fun R hR=>calls R a0 w (h R hR)
attribute [irreducible] b1_1 b1_2 b1 run
attribute [go_sem] b1_1 b1_2 b1 run
end law04_written

end Go.Proofs.YtckbgeedlobfaaaDoor
