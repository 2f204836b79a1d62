/- Shallow programs, written by a program of ours (gen.py) off the translation; each is tied to the code by the kernel. -/
import Derived.Test.YtckbgeedlobfaaaDoorY04
set_option linter.unusedVariables false
set_option maxRecDepth 100000
namespace Go.Proofs.YtckbgeedlobfaaaDoor
open Go.Px

/-! ### presage/presagelaw04.SpecLong -/
namespace law04_SpecLong
noncomputable def code:Code:=bodyOf Tryd.f6
noncomputable abbrev p1:Code:=dropC 6 code
def b3_1 (R:EP) (x7:Value) (w38:World) (_r:Tok R:=tok R):Prop :=
 RUN Tryd.prog (pan R) (bins .add 9 (.tmp 60) (.const (Go.Value.string {data:=#[32] })) x7 (Go.Value.string {data:=#[32] })) w38 fun v39 w40 =>
 CALL Tryd.prog (pan R) spec_Bad.id #[v39] w40 fun v41 w42 =>
 RUN Tryd.prog (pan R) (bins .eql 3 (.tmp 62) (.const (Go.Value.int Go.IntKind.i64 8192)) v41 (Go.Value.int Go.IntKind.i64 8192)) w42 fun v43 w44 =>
 R (.returned v43) w44
def b3_2 (R:EP) (x7 v13:Value) (w30:World) (_r:Tok R:=tok R):Prop :=
 RUN Tryd.prog (pan R) (Instr.fieldAt 28 v13 4) w30 fun v31 w32 =>
 RUN Tryd.prog (pan R) (Instr.loadAt 26 v31) w32 fun v33 w34 =>
 RUN Tryd.prog (pan R) (Builtin.len_ #[26] 3 #[v33]) w34 fun v35 w36 =>
 RUN Tryd.prog (pan R) (bins .eql 3 (.tmp 56) (.const (Go.Value.int Go.IntKind.i64 0)) v35 (Go.Value.int Go.IntKind.i64 0)) w36 fun v37 w38 =>
 SPL v37
 (b3_1 R x7 w38)
 (R (.returned (Go.Value.bool Bool.false)) w38)
def b3_3 (R:EP) (x7 v13 v15:Value) (w24:World) (_r:Tok R:=tok R):Prop :=
 RUN Tryd.prog (pan R) (Instr.fieldAt 31 v15 1) w24 fun v25 w26 =>
 RUN Tryd.prog (pan R) (Instr.loadAt 3 v25) w26 fun v27 w28 =>
 RUN Tryd.prog (pan R) (bins .eql 3 (.tmp 50) (.const (Go.Value.int Go.IntKind.i64 8192)) v27 (Go.Value.int Go.IntKind.i64 8192)) w28 fun v29 w30 =>
 SPL v29
 (b3_2 R x7 v13 w30)
 (R (.returned (Go.Value.bool Bool.false)) w30)
def b3_4 (R:EP) (x7 v13 v15:Value) (w18:World) (_r:Tok R:=tok R):Prop :=
 RUN Tryd.prog (pan R) (Instr.fieldAt 31 v15 0) w18 fun v19 w20 =>
 RUN Tryd.prog (pan R) (Instr.loadAt 29 v19) w20 fun v21 w22 =>
 RUN Tryd.prog (pan R) (bins .eql 29 (.tmp 45) (.const (Go.Value.int Go.IntKind.i64 10)) v21 (Go.Value.int Go.IntKind.i64 10)) w22 fun v23 w24 =>
 SPL v23
 (b3_3 R x7 v13 v15 w24)
 (R (.returned (Go.Value.bool Bool.false)) w24)
def b3_5 (R:EP) (x5 x7 v7:Value) (w8:World) (_r:Tok R:=tok R):Prop :=
 RUN Tryd.prog (pan R) (Instr.extract v7 0) w8 fun v9 w10 =>
 RUN Tryd.prog (pan R) (Instr.extract v7 1) w10 fun v11 w12 =>
 RUN Tryd.prog (pan R) (Instr.alloc 28 true (.tuple #[])) w12 fun v13 w14 =>
 RUN Tryd.prog (pan R) (Instr.alloc 31 true (.tuple #[])) w14 fun v15 w16 =>
 RUNU Tryd.prog (pan R) (Instr.storeAt 28 v13 v9) w16 fun w17 =>
 RUNU Tryd.prog (pan R) (Instr.storeAt 31 v15 v11) w17 fun w18 =>
 SPL x5
 (b3_4 R x7 v13 v15 w18)
 (R (.returned (Go.Value.bool Bool.false)) w18)
def b3_6 (R:EP) (x5 x7:Value) (w4:World) (_r:Tok R:=tok R):Prop :=
 RUN Tryd.prog (pan R) (bins .add 9 (.tmp 37) (.const (Go.Value.string {data:=#[32] })) x7 (Go.Value.string {data:=#[32] })) w4 fun v5 w6 =>
 CALL Tryd.prog (pan R) spec_Read.id #[v5] w6 fun v7 w8 =>
 b3_5 R x5 x7 v7 w8
def b3_7 (R:EP) (x6 x7:Value) (w4:World) (_r:Tok R:=tok R):Prop :=
 CALL Tryd.prog (pan R) spec_Bad.id #[x7] w4 fun v45 w46 =>
 RUN Tryd.prog (pan R) (bins .eql 3 (.tmp 68) (.tmp 69) v45 x6) w46 fun v47 w48 =>
 R (.returned v47) w48

def b3 (R:EP) (x1 x5 x6 x7:Value) (w:World) (_r:Tok R:=tok R):Prop :=
 RUN Tryd.prog (pan R) (bins .rem 3 (.tmp 33) (.const (Go.Value.int Go.IntKind.i64 2)) x1 (Go.Value.int Go.IntKind.i64 2)) w fun v1 w2 =>
 RUN Tryd.prog (pan R) (bins .eql 3 (.tmp 34) (.const (Go.Value.int Go.IntKind.i64 0)) v1 (Go.Value.int Go.IntKind.i64 0)) w2 fun v3 w4 =>
 SPL v3
 (b3_6 R x5 x7 w4)
 (SPL x5
 (b3_7 R x6 x7 w4)
 (R (.returned (Go.Value.bool Bool.false)) w4))
abbrev q1 (R:EP):XP:=QX (fun ρ w=>R (.returned (ρ 4)) w) (fun ρ w=>R (.returned (ρ 4)) w) []
theorem b3_eq (R:EP) (ρ:Env) (w:World):(b3 R (ρ 1) (ρ 5) (ρ 6) (ρ 7) w)=codeP Tryd.prog (pan R) (sndC p1) (q1 R) ρ w:=by kernel_rfl
theorem b3_ok (R:EP) (ρ:Env) (w:World) (h:b3 R (ρ 1) (ρ 5) (ρ 6) (ρ 7) w):codeP Tryd.prog (pan R) (sndC p1) (q1 R) ρ w:=(b3_eq R ρ w).mp h
noncomputable abbrev p2:Code:=blkC (fstC p1)

def b6 (R:EP) (C5:VP) (x1 x5 x6 x7:Value) (w:World) (_r:Tok R:=tok R) (_C5:Tok C5:=tok C5):Prop :=
 RUN Tryd.prog (pan R) (Builtin.len_ #[9] 3 #[x7]) w fun v1 w2 =>
 RUN Tryd.prog (pan R) (bins .lss 3 (.tmp 29) (.const (Go.Value.int Go.IntKind.i64 8192)) v1 (Go.Value.int Go.IntKind.i64 8192)) w2 fun v3 w4 =>
 SPL v3
 (RUN Tryd.prog (pan R) (bins .add 9 (.tmp 31) (.const (Go.Value.string {data:=#[10] })) x7 (Go.Value.string {data:=#[10] })) w4 fun v5 w6 =>
 C5 v5 w6)
 (b3 R x1 x5 x6 x7 w4)
abbrev q2 (R:EP) (C5:VP):XP:=QX (fun ρ w=>C5 (ρ 7) w) (fun ρ w=>R (.returned (ρ 4)) w) [(0,(fun ρ w=>b3 R (ρ 1) (ρ 5) (ρ 6) (ρ 7) w))]
theorem b6_eq (R:EP) (C5:VP) (ρ:Env) (w:World):(b6 R C5 (ρ 1) (ρ 5) (ρ 6) (ρ 7) w)=codeP Tryd.prog (pan R) (loopC p2) (q2 R C5) ρ w:=by kernel_rfl
theorem b6_ok (R:EP) (C5:VP) (ρ:Env) (w:World) (h:b6 R C5 (ρ 1) (ρ 5) (ρ 6) (ρ 7) w):codeP Tryd.prog (pan R) (loopC p2) (q2 R C5) ρ w:=(b6_eq R C5 ρ w).mp h

def l5 (R:EP) (x1 x5 x6 x7:Value) (w:World) (_r:Tok R:=tok R):Prop :=
 ∃(J:VP) (μ:Value→World→Nat),J x7 w∧∀y7 w0,J y7 w0→b6 R (fun z7 w1=>J z7 w1∧μ z7 w1<μ y7 w0) x1 x5 x6 y7 w0
abbrev q3 (R:EP):XP:=QX (fun ρ w=>b3 R (ρ 1) (ρ 5) (ρ 6) (ρ 7) w) (fun ρ w=>R (.returned (ρ 4)) w) [(0,(fun ρ w=>b3 R (ρ 1) (ρ 5) (ρ 6) (ρ 7) w))]
theorem l5_ok (R:EP) (ρ:Env) (w:World) (h:l5 R (ρ 1) (ρ 5) (ρ 6) (ρ 7) w):codeP Tryd.prog (pan R) p2 (q3 R) ρ w:=by
 unfold l5 at h
 obtain ⟨J,μ,h0,hr⟩:=h
 have e:Code.loop (loopC p2)=p2:=by kernel_rfl
 rw [←e]
 refine loopQ (fun ρ' w'=>J (ρ' 7) w') (fun ρ' w'=>μ (ρ' 7) w') h0 fun ρ' w' hA hI=>?_
 have e1:ρ' 1=ρ 1:=Agree.at hA 1 (by kernel_rfl)
 have e5:ρ' 5=ρ 5:=Agree.at hA 5 (by kernel_rfl)
 have e6:ρ' 6=ρ 6:=Agree.at hA 6 (by kernel_rfl)
 have h1:=hr (ρ' 7) w' hI
 rw [←e1,←e5,←e6] at h1
 exact b6_ok R (fun z7 w1=>J z7 w1∧μ z7 w1<μ (ρ' 7) w') ρ' w' h1
theorem l5_intro (R:EP) (x1 x5 x6 x7:Value) (w:World) (J:VP) (μ:Value→World→Nat) (h0:J x7 w)
  (hr:∀y7 w0,J y7 w0→∀C5:VP,(∀z7 w1,J z7 w1→μ z7 w1<μ y7 w0→C5 z7 w1)→b6 R C5 x1 x5 x6 y7 w0):l5 R x1 x5 x6 x7 w:=by
 unfold l5
 exact ⟨J,μ,h0,fun y7 w0 hJ=>hr y7 w0 hJ _ (fun z7 w1 h1 h2=>⟨h1,h2⟩)⟩
abbrev q4 (R:EP):XP:=QX (fun ρ w=>b3 R (ρ 1) (ρ 5) (ρ 6) (ρ 7) w) (fun ρ w=>R (.returned (ρ 4)) w) []
theorem k4_ok (R:EP) (ρ:Env) (w:World) (h:l5 R (ρ 1) (ρ 5) (ρ 6) (ρ 7) w):codeP Tryd.prog (pan R) (fstC p1) (q4 R) ρ w:=by
 have e:Code.block 0 (blkC (fstC p1))=(fstC p1):=by kernel_rfl
 rw [←e]
 exact blockQ (l5_ok R ρ w h)
theorem k2_ok (R:EP) (ρ:Env) (w:World) (h:l5 R (ρ 1) (ρ 5) (ρ 6) (ρ 7) w):codeP Tryd.prog (pan R) p1 (q1 R) ρ w:=by
 have e:Code.seq (fstC p1) (sndC p1)=p1:=by kernel_rfl
 rw [←e]
 exact seqQ (fun ρ w=>b3 R (ρ 1) (ρ 5) (ρ 6) (ρ 7) w) (k4_ok R ρ w h) (fun ρ w h=>b3_ok R ρ w h)
def b1_1 (R:EP) (x0:Value) (w6:World) (_r:Tok R:=tok R):Prop :=
 CALL Tryd.prog (pan R) spec_Bad.id #[x0] w6 fun v7 w8 =>
 RUN Tryd.prog (pan R) (bins .eql 3 (.tmp 17) (.const (Go.Value.int Go.IntKind.i64 8192)) v7 (Go.Value.int Go.IntKind.i64 8192)) w8 fun v9 w10 =>
 R (.returned v9) w10
def b1_2 (R:EP) (x0 x1 v1 v11:Value) (w12:World) (_r:Tok R:=tok R):Prop :=
 RUN Tryd.prog (pan R) (Builtin.len_ #[9] 3 #[x0]) w12 fun v13 w14 =>
 RUN Tryd.prog (pan R) (bins .eql 3 (.tmp 22) (.tmp 24) v11 v13) w14 fun v15 w16 =>
 SPL v15
 (R (.returned v1) w16)
 (l5 R x1 v1 v11 x0 w16)
def b1_3 (R:EP) (x0 x1 v1:Value) (w2:World) (_r:Tok R:=tok R):Prop :=
 RUN Tryd.prog (pan R) (Builtin.len_ #[9] 3 #[x0]) w2 fun v3 w4 =>
 RUN Tryd.prog (pan R) (bins .gtr 3 (.tmp 12) (.const (Go.Value.int Go.IntKind.i64 8192)) v3 (Go.Value.int Go.IntKind.i64 8192)) w4 fun v5 w6 =>
 SPL v5
 (SPL v1
 (b1_1 R x0 w6)
 (R (.returned (Go.Value.bool Bool.false)) w6))
 (CALL Tryd.prog (pan R) spec_Bad.id #[x0] w6 fun v11 w12 =>
 b1_2 R x0 x1 v1 v11 w12)

def b1 (R:EP) (x0 x1:Value) (w:World) (_r:Tok R:=tok R):Prop :=
 CALL Tryd.prog (pan R) law04_awake.id #[] w fun v1 w2 =>
 b1_3 R x0 x1 v1 w2
abbrev q5 (R:EP):XP:=QX (fun ρ w=>l5 R (ρ 1) (ρ 5) (ρ 6) (ρ 7) w) (fun ρ w=>R (.returned (ρ 4)) w) []
theorem b1_eq (R:EP) (ρ:Env) (w:World):(b1 R (ρ 0) (ρ 1) w)=codeP Tryd.prog (pan R) (preC 5 code) (q5 R) ρ w:=by kernel_rfl
theorem b1_ok (R:EP) (ρ:Env) (w:World) (h:b1 R (ρ 0) (ρ 1) w):codeP Tryd.prog (pan R) code (q1 R) ρ w:=by
 have e:appC 5 (preC 5 code) (dropC 6 code)=code:=by kernel_rfl
 rw [←e]
 exact appQ (fun ρ w=>l5 R (ρ 1) (ρ 5) (ρ 6) (ρ 7) w) 5 ((b1_eq R ρ w).mp h) (fun ρ w h=>k2_ok R ρ w h)
/-- What is owed for a call. -/
def run (R:EP) (a0 a1:Value) (w:World):Prop:=b1 R a0 a1 w
theorem calls (R:EP) (a0 a1:Value) (w:World) (h:run R a0 a1 w):Calls Tryd.prog id #[a0,a1] w R :=
 calls_of_t (f:=id) (fn:=Tryd.f6) (c:=code) (by kernel_rfl) Tryd.func6 (by kernel_rfl) (by kernel_rfl) (args:=[a0,a1]) (Nat.le_of_ble_eq_true rfl) rfl (b1_ok R (envOf [a0,a1]) w h)
theorem enters:Enters Tryd.prog id:=fun args w=>Tryd.call6 args w
theorem ct {a0 a1:Value} {w:World} {S:VP} (h:∀R:EP,(∀v w,S v w→R (.returned v) w)→run R a0 a1 w):Ct Tryd.prog id #[a0,a1] w S :=
 Ct.intro enters fun R hR=>calls R a0 a1 w (h R hR)
attribute [irreducible] b3_1 b3_2 b3_3 b3_4 b3_5 b3_6 b3_7 b3 b6 l5 b1_1 b1_2 b1_3 b1 run
attribute [go_sem] b3_1 b3_2 b3_3 b3_4 b3_5 b3_6 b3_7 b3 b6 b1_1 b1_2 b1_3 b1 run
end law04_SpecLong

/-! ### presage/presagelaw04.awake -/
namespace law04_awake
noncomputable def code:Code:=bodyOf Tryd.f11
def b1_1 (R:EP) (w58:World) (_r:Tok R:=tok R):Prop :=
 CALL Tryd.prog (pan R) spec_Bad.id #[(Go.Value.string {data:=#[] })] w58 fun v59 w60 =>
 RUN Tryd.prog (pan R) (bins .eql 3 (.tmp 39) (.const (Go.Value.int Go.IntKind.i64 0)) v59 (Go.Value.int Go.IntKind.i64 0)) w60 fun v61 w62 =>
 R (.returned v61) w62
def b1_2 (R:EP) (v21:Value) (w52:World) (_r:Tok R:=tok R):Prop :=
 RUN Tryd.prog (pan R) (Instr.fieldAt 31 v21 1) w52 fun v53 w54 =>
 RUN Tryd.prog (pan R) (Instr.loadAt 3 v53) w54 fun v55 w56 =>
 RUN Tryd.prog (pan R) (bins .eql 3 (.tmp 35) (.const (Go.Value.int Go.IntKind.i64 3)) v55 (Go.Value.int Go.IntKind.i64 3)) w56 fun v57 w58 =>
 SPL v57
 (b1_1 R w58)
 (R (.returned (Go.Value.bool Bool.false)) w58)
def b1_3 (R:EP) (v21:Value) (w46:World) (_r:Tok R:=tok R):Prop :=
 RUN Tryd.prog (pan R) (Instr.fieldAt 31 v21 0) w46 fun v47 w48 =>
 RUN Tryd.prog (pan R) (Instr.loadAt 29 v47) w48 fun v49 w50 =>
 RUN Tryd.prog (pan R) (bins .eql 29 (.tmp 30) (.const (Go.Value.int Go.IntKind.i64 10)) v49 (Go.Value.int Go.IntKind.i64 10)) w50 fun v51 w52 =>
 SPL v51
 (b1_2 R v21 w52)
 (R (.returned (Go.Value.bool Bool.false)) w52)
def b1_4 (R:EP) (v7 v21:Value) (w38:World) (_r:Tok R:=tok R):Prop :=
 RUN Tryd.prog (pan R) (Instr.fieldAt 28 v7 0) w38 fun v39 w40 =>
 RUN Tryd.prog (pan R) (Instr.loadAt 23 v39) w40 fun v41 w42 =>
 RUN Tryd.prog (pan R) (Builtin.len_ #[23] 3 #[v41]) w42 fun v43 w44 =>
 RUN Tryd.prog (pan R) (bins .eql 3 (.tmp 25) (.const (Go.Value.int Go.IntKind.i64 3)) v43 (Go.Value.int Go.IntKind.i64 3)) w44 fun v45 w46 =>
 SPL v45
 (b1_3 R v21 w46)
 (R (.returned (Go.Value.bool Bool.false)) w46)
def b1_5 (R:EP) (v7 v21:Value) (w30:World) (_r:Tok R:=tok R):Prop :=
 RUN Tryd.prog (pan R) (Instr.fieldAt 28 v7 4) w30 fun v31 w32 =>
 RUN Tryd.prog (pan R) (Instr.loadAt 26 v31) w32 fun v33 w34 =>
 RUN Tryd.prog (pan R) (Builtin.len_ #[26] 3 #[v33]) w34 fun v35 w36 =>
 RUN Tryd.prog (pan R) (bins .eql 3 (.tmp 19) (.const (Go.Value.int Go.IntKind.i64 2)) v35 (Go.Value.int Go.IntKind.i64 2)) w36 fun v37 w38 =>
 SPL v37
 (b1_4 R v7 v21 w38)
 (R (.returned (Go.Value.bool Bool.false)) w38)
def b1_6 (R:EP) (v7 v9 v13:Value) (w14:World) (_r:Tok R:=tok R):Prop :=
 RUN Tryd.prog (pan R) (Instr.extract v13 0) w14 fun v15 w16 =>
 RUN Tryd.prog (pan R) (Instr.extract v13 1) w16 fun v17 w18 =>
 RUN Tryd.prog (pan R) (Instr.alloc 28 true (.tuple #[])) w18 fun v19 w20 =>
 RUN Tryd.prog (pan R) (Instr.alloc 31 true (.tuple #[])) w20 fun v21 w22 =>
 RUNU Tryd.prog (pan R) (Instr.storeAt 28 v19 v15) w22 fun w23 =>
 RUNU Tryd.prog (pan R) (Instr.storeAt 31 v21 v17) w23 fun w24 =>
 RUN Tryd.prog (pan R) (Instr.fieldAt 31 v9 0) w24 fun v25 w26 =>
 RUN Tryd.prog (pan R) (Instr.loadAt 29 v25) w26 fun v27 w28 =>
 RUN Tryd.prog (pan R) (bins .eql 29 (.tmp 14) (.const (Go.Value.int Go.IntKind.i64 0)) v27 (Go.Value.int Go.IntKind.i64 0)) w28 fun v29 w30 =>
 SPL v29
 (b1_5 R v7 v21 w30)
 (R (.returned (Go.Value.bool Bool.false)) w30)
def b1_7 (R:EP) (v1:Value) (w2:World) (_r:Tok R:=tok R):Prop :=
 RUN Tryd.prog (pan R) (Instr.extract v1 0) w2 fun v3 w4 =>
 RUN Tryd.prog (pan R) (Instr.extract v1 1) w4 fun v5 w6 =>
 RUN Tryd.prog (pan R) (Instr.alloc 28 true (.tuple #[])) w6 fun v7 w8 =>
 RUN Tryd.prog (pan R) (Instr.alloc 31 true (.tuple #[])) w8 fun v9 w10 =>
 RUNU Tryd.prog (pan R) (Instr.storeAt 28 v7 v3) w10 fun w11 =>
 RUNU Tryd.prog (pan R) (Instr.storeAt 31 v9 v5) w11 fun w12 =>
 CALL Tryd.prog (pan R) spec_Read.id #[(Go.Value.string {data:=#[115,32,58] })] w12 fun v13 w14 =>
 b1_6 R v7 v9 v13 w14

def b1 (R:EP) (w:World) (_r:Tok R:=tok R):Prop :=
 CALL Tryd.prog (pan R) spec_Read.id #[(Go.Value.string {data:=#[101,32,58,32,101,32,39,43,39,32,110,32,124,32,110,32,59] })] w fun v1 w2 =>
 b1_7 R v1 w2
abbrev q1 (R:EP):XP:=QX (fun ρ w=>R (.returned (ρ 0)) w) (fun ρ w=>R (.returned (ρ 0)) w) []
theorem b1_eq (R:EP) (ρ:Env) (w:World):(b1 R w)=codeP Tryd.prog (pan R) code (q1 R) ρ w:=by kernel_rfl
theorem b1_ok (R:EP) (ρ:Env) (w:World) (h:b1 R w):codeP Tryd.prog (pan R) code (q1 R) ρ w:=(b1_eq R ρ w).mp h
/-- What is owed for a call. -/
def run (R:EP) (w:World):Prop:=b1 R w
theorem calls (R:EP) (w:World) (h:run R w):Calls Tryd.prog id #[] w R :=
 calls_of_t (f:=id) (fn:=Tryd.f11) (c:=code) (by kernel_rfl) Tryd.func11 (by kernel_rfl) (by kernel_rfl) (args:=[]) (Nat.le_of_ble_eq_true rfl) rfl (b1_ok R (envOf []) w h)
theorem enters:Enters Tryd.prog id:=fun args w=>Tryd.call11 args w
theorem ct {w:World} {S:VP} (h:∀R:EP,(∀v w,S v w→R (.returned v) w)→run R w):Ct Tryd.prog id #[] w S :=
 Ct.intro enters fun R hR=>calls R w (h R hR)
attribute [irreducible] b1_1 b1_2 b1_3 b1_4 b1_5 b1_6 b1_7 b1 run
attribute [go_sem] b1_1 b1_2 b1_3 b1_4 b1_5 b1_6 b1_7 b1 run
end law04_awake

/-! ### presage/presagelaw04.same -/
namespace law04_same
noncomputable def code:Code:=bodyOf Tryd.f14
def b1_1 (R:EP) (v3:Value) (w34:World) (_r:Tok R:=tok R):Prop :=
 RUN Tryd.prog (pan R) (Instr.fieldAt 31 v3 2) w34 fun v35 w36 =>
 RUN Tryd.prog (pan R) (Instr.loadAt 24 v35) w36 fun v37 w38 =>
 RUN Tryd.prog (pan R) (Builtin.len_ #[24] 3 #[v37]) w38 fun v39 w40 =>
 RUN Tryd.prog (pan R) (bins .eql 3 (.tmp 31) (.const (Go.Value.int Go.IntKind.i64 0)) v39 (Go.Value.int Go.IntKind.i64 0)) w40 fun v41 w42 =>
 R (.returned v41) w42
def b1_2 (R:EP) (v3 v7:Value) (w24:World) (_r:Tok R:=tok R):Prop :=
 RUN Tryd.prog (pan R) (Instr.fieldAt 31 v3 1) w24 fun v25 w26 =>
 RUN Tryd.prog (pan R) (Instr.loadAt 3 v25) w26 fun v27 w28 =>
 RUN Tryd.prog (pan R) (Instr.fieldAt 31 v7 1) w28 fun v29 w30 =>
 RUN Tryd.prog (pan R) (Instr.loadAt 3 v29) w30 fun v31 w32 =>
 RUN Tryd.prog (pan R) (bins .eql 3 (.tmp 23) (.tmp 25) v27 v31) w32 fun v33 w34 =>
 SPL v33
 (b1_1 R v3 w34)
 (R (.returned (Go.Value.bool Bool.false)) w34)
def b1_3 (R:EP) (v3 v7:Value) (w14:World) (_r:Tok R:=tok R):Prop :=
 RUN Tryd.prog (pan R) (Instr.fieldAt 31 v3 0) w14 fun v15 w16 =>
 RUN Tryd.prog (pan R) (Instr.loadAt 29 v15) w16 fun v17 w18 =>
 RUN Tryd.prog (pan R) (Instr.fieldAt 31 v7 0) w18 fun v19 w20 =>
 RUN Tryd.prog (pan R) (Instr.loadAt 29 v19) w20 fun v21 w22 =>
 RUN Tryd.prog (pan R) (bins .eql 29 (.tmp 16) (.tmp 18) v17 v21) w22 fun v23 w24 =>
 SPL v23
 (b1_2 R v3 v7 w24)
 (R (.returned (Go.Value.bool Bool.false)) w24)
def b1 (R:EP) (x0 x1 x2 x3:Value) (w:World) (_r:Tok R:=tok R):Prop :=
 RUN Tryd.prog (pan R) (Instr.box 28 x0) w fun v1 w2 =>
 RUN Tryd.prog (pan R) (Instr.box 31 x1) w2 fun v3 w4 =>
 RUN Tryd.prog (pan R) (Instr.box 28 x2) w4 fun v5 w6 =>
 RUN Tryd.prog (pan R) (Instr.box 31 x3) w6 fun v7 w8 =>
 RUN Tryd.prog (pan R) (Instr.loadAt 28 v1) w8 fun v9 w10 =>
 RUN Tryd.prog (pan R) (Instr.loadAt 28 v5) w10 fun v11 w12 =>
 CALL Tryd.prog (pan R) ref02_Same.id #[v9,v11] w12 fun v13 w14 =>
 SPL v13
 (b1_3 R v3 v7 w14)
 (R (.returned (Go.Value.bool Bool.false)) w14)
abbrev q1 (R:EP):XP:=QX (fun ρ w=>R (.returned (ρ 8)) w) (fun ρ w=>R (.returned (ρ 8)) w) []
theorem b1_eq (R:EP) (ρ:Env) (w:World):(b1 R (ρ 0) (ρ 1) (ρ 2) (ρ 3) w)=codeP Tryd.prog (pan R) code (q1 R) ρ w:=by kernel_rfl
theorem b1_ok (R:EP) (ρ:Env) (w:World) (h:b1 R (ρ 0) (ρ 1) (ρ 2) (ρ 3) w):codeP Tryd.prog (pan R) code (q1 R) ρ w:=(b1_eq R ρ w).mp h
/-- What is owed for a call. -/
def run (R:EP) (a0 a1 a2 a3:Value) (w:World):Prop:=b1 R a0 a1 a2 a3 w
theorem calls (R:EP) (a0 a1 a2 a3:Value) (w:World) (h:run R a0 a1 a2 a3 w):Calls Tryd.prog id #[a0,a1,a2,a3] w R :=
 calls_of_t (f:=id) (fn:=Tryd.f14) (c:=code) (by kernel_rfl) Tryd.func14 (by kernel_rfl) (by kernel_rfl) (args:=[a0,a1,a2,a3]) (Nat.le_of_ble_eq_true rfl) rfl (b1_ok R (envOf [a0,a1,a2,a3]) w h)
theorem enters:Enters Tryd.prog id:=fun args w=>Tryd.call14 args w
theorem ct {a0 a1 a2 a3:Value} {w:World} {S:VP} (h:∀R:EP,(∀v w,S v w→R (.returned v) w)→run R a0 a1 a2 a3 w):Ct Tryd.prog id #[a0,a1,a2,a3] w S :=
 Ct.intro enters fun R hR=>calls R a0 a1 a2 a3 w (h R hR)
attribute [irreducible] b1_1 b1_2 b1_3 b1 run
attribute [go_sem] b1_1 b1_2 b1_3 b1 run
end law04_same

/-! ### presage/presagelaw04.written -/
namespace law04_written
noncomputable def code:Code:=bodyOf Tryd.f19
def b1_1 (R:EP) (v1:Value) (w8:World) (_r:Tok R:=tok R):Prop :=
 RUN Tryd.prog (pan R) (Instr.fieldAt 46 v1 1) w8 fun v9 w10 =>
 RUN Tryd.prog (pan R) (Instr.loadAt 9 v9) w10 fun v11 w12 =>
 RUN Tryd.prog (pan R) (bins .add 9 (.const (Go.Value.string {data:=#[39] })) (.tmp 7) (Go.Value.string {data:=#[39] }) v11) w12 fun v13 w14 =>
 RUN Tryd.prog (pan R) (bins .add 9 (.tmp 8) (.const (Go.Value.string {data:=#[39] })) v13 (Go.Value.string {data:=#[39] })) w14 fun v15 w16 =>
 R (.returned v15) w16
def b1_2 (R:EP) (v1:Value) (w8:World) (_r:Tok R:=tok R):Prop :=
 RUN Tryd.prog (pan R) (Instr.fieldAt 46 v1 1) w8 fun v17 w18 =>
 RUN Tryd.prog (pan R) (Instr.loadAt 9 v17) w18 fun v19 w20 =>
 R (.returned v19) w20
def b1 (R:EP) (x0:Value) (w:World) (_r:Tok R:=tok R):Prop :=
 RUN Tryd.prog (pan R) (Instr.box 46 x0) w fun v1 w2 =>
 RUN Tryd.prog (pan R) (Instr.fieldAt 46 v1 0) w2 fun v3 w4 =>
 RUN Tryd.prog (pan R) (Instr.loadAt 3 v3) w4 fun v5 w6 =>
 RUN Tryd.prog (pan R) (bins .eql 3 (.tmp 4) (.const (Go.Value.int Go.IntKind.i64 2)) v5 (Go.Value.int Go.IntKind.i64 2)) w6 fun v7 w8 =>
 SPL v7
 (b1_1 R v1 w8)
 (b1_2 R v1 w8)
abbrev q1 (R:EP):XP:=QX (fun ρ w=>R (.returned (ρ 2)) w) (fun ρ w=>R (.returned (ρ 2)) w) []
theorem b1_eq (R:EP) (ρ:Env) (w:World):(b1 R (ρ 0) w)=codeP Tryd.prog (pan R) code (q1 R) ρ w:=by kernel_rfl
theorem b1_ok (R:EP) (ρ:Env) (w:World) (h:b1 R (ρ 0) w):codeP Tryd.prog (pan R) code (q1 R) ρ w:=(b1_eq R ρ w).mp h
/-- What is owed for a call. -/
def run (R:EP) (a0:Value) (w:World):Prop:=b1 R a0 w
theorem calls (R:EP) (a0:Value) (w:World) (h:run R a0 w):Calls Tryd.prog id #[a0] w R :=
 calls_of_t (f:=id) (fn:=Tryd.f19) (c:=code) (by kernel_rfl) Tryd.func19 (by kernel_rfl) (by kernel_rfl) (args:=[a0]) (Nat.le_of_ble_eq_true rfl) rfl (b1_ok R (envOf [a0]) w h)
theorem enters:Enters Tryd.prog id:=fun args w=>Tryd.call19 args w
theorem ct {a0:Value} {w:World} {S:VP} (h:∀R:EP,(∀v w,S v w→R (.returned v) w)→run R a0 w):Ct Tryd.prog id #[a0] w S :=
 Ct.intro enters fun R hR=>calls R a0 w (h R hR)
attribute [irreducible] b1_1 b1_2 b1 run
attribute [go_sem] b1_1 b1_2 b1 run
end law04_written

/-! ### presage/presagelaw04.alike -/
namespace law04_alike
noncomputable def code:Code:=bodyOf Tryd.f23
def b1_1 (R:EP) (v9 v21:Value) (w40:World) (_r:Tok R:=tok R):Prop :=
 RUN Tryd.prog (pan R) (Instr.fieldAt 31 v9 1) w40 fun v41 w42 =>
 RUN Tryd.prog (pan R) (Instr.loadAt 3 v41) w42 fun v43 w44 =>
 RUN Tryd.prog (pan R) (Instr.fieldAt 31 v21 1) w44 fun v45 w46 =>
 RUN Tryd.prog (pan R) (Instr.loadAt 3 v45) w46 fun v47 w48 =>
 RUN Tryd.prog (pan R) (bins .eql 3 (.tmp 33) (.tmp 35) v43 v47) w48 fun v49 w50 =>
 R (.returned v49) w50
def b1_2 (R:EP) (v9 v21:Value) (w30:World) (_r:Tok R:=tok R):Prop :=
 RUN Tryd.prog (pan R) (Instr.fieldAt 31 v9 0) w30 fun v31 w32 =>
 RUN Tryd.prog (pan R) (Instr.loadAt 29 v31) w32 fun v33 w34 =>
 RUN Tryd.prog (pan R) (Instr.fieldAt 31 v21 0) w34 fun v35 w36 =>
 RUN Tryd.prog (pan R) (Instr.loadAt 29 v35) w36 fun v37 w38 =>
 RUN Tryd.prog (pan R) (bins .eql 29 (.tmp 26) (.tmp 28) v33 v37) w38 fun v39 w40 =>
 SPL v39
 (b1_1 R v9 v21 w40)
 (R (.returned (Go.Value.bool Bool.false)) w40)
def b1_3 (R:EP) (v7 v9 v13:Value) (w14:World) (_r:Tok R:=tok R):Prop :=
 RUN Tryd.prog (pan R) (Instr.extract v13 0) w14 fun v15 w16 =>
 RUN Tryd.prog (pan R) (Instr.extract v13 1) w16 fun v17 w18 =>
 RUN Tryd.prog (pan R) (Instr.alloc 28 true (.tuple #[])) w18 fun v19 w20 =>
 RUN Tryd.prog (pan R) (Instr.alloc 31 true (.tuple #[])) w20 fun v21 w22 =>
 RUNU Tryd.prog (pan R) (Instr.storeAt 28 v19 v15) w22 fun w23 =>
 RUNU Tryd.prog (pan R) (Instr.storeAt 31 v21 v17) w23 fun w24 =>
 RUN Tryd.prog (pan R) (Instr.loadAt 28 v7) w24 fun v25 w26 =>
 RUN Tryd.prog (pan R) (Instr.loadAt 28 v19) w26 fun v27 w28 =>
 CALL Tryd.prog (pan R) ref02_Same.id #[v25,v27] w28 fun v29 w30 =>
 SPL v29
 (b1_2 R v9 v21 w30)
 (R (.returned (Go.Value.bool Bool.false)) w30)
def b1_4 (R:EP) (x1 v1:Value) (w2:World) (_r:Tok R:=tok R):Prop :=
 RUN Tryd.prog (pan R) (Instr.extract v1 0) w2 fun v3 w4 =>
 RUN Tryd.prog (pan R) (Instr.extract v1 1) w4 fun v5 w6 =>
 RUN Tryd.prog (pan R) (Instr.alloc 28 true (.tuple #[])) w6 fun v7 w8 =>
 RUN Tryd.prog (pan R) (Instr.alloc 31 true (.tuple #[])) w8 fun v9 w10 =>
 RUNU Tryd.prog (pan R) (Instr.storeAt 28 v7 v3) w10 fun w11 =>
 RUNU Tryd.prog (pan R) (Instr.storeAt 31 v9 v5) w11 fun w12 =>
 CALL Tryd.prog (pan R) spec_Read.id #[x1] w12 fun v13 w14 =>
 b1_3 R v7 v9 v13 w14
def b1 (R:EP) (x0 x1:Value) (w:World) (_r:Tok R:=tok R):Prop :=
 CALL Tryd.prog (pan R) spec_Read.id #[x0] w fun v1 w2 =>
 b1_4 R x1 v1 w2
abbrev q1 (R:EP):XP:=QX (fun ρ w=>R (.returned (ρ 4)) w) (fun ρ w=>R (.returned (ρ 4)) w) []
theorem b1_eq (R:EP) (ρ:Env) (w:World):(b1 R (ρ 0) (ρ 1) w)=codeP Tryd.prog (pan R) code (q1 R) ρ w:=by kernel_rfl
theorem b1_ok (R:EP) (ρ:Env) (w:World) (h:b1 R (ρ 0) (ρ 1) w):codeP Tryd.prog (pan R) code (q1 R) ρ w:=(b1_eq R ρ w).mp h
/-- What is owed for a call. -/
def run (R:EP) (a0 a1:Value) (w:World):Prop:=b1 R a0 a1 w
theorem calls (R:EP) (a0 a1:Value) (w:World) (h:run R a0 a1 w):Calls Tryd.prog id #[a0,a1] w R :=
 calls_of_t (f:=id) (fn:=Tryd.f23) (c:=code) (by kernel_rfl) Tryd.func23 (by kernel_rfl) (by kernel_rfl) (args:=[a0,a1]) (Nat.le_of_ble_eq_true rfl) rfl (b1_ok R (envOf [a0,a1]) w h)
theorem enters:Enters Tryd.prog id:=fun args w=>Tryd.call23 args w
theorem ct {a0 a1:Value} {w:World} {S:VP} (h:∀R:EP,(∀v w,S v w→R (.returned v) w)→run R a0 a1 w):Ct Tryd.prog id #[a0,a1] w S :=
 Ct.intro enters fun R hR=>calls R a0 a1 w (h R hR)
attribute [irreducible] b1_1 b1_2 b1_3 b1_4 b1 run
attribute [go_sem] b1_1 b1_2 b1_3 b1_4 b1 run
end law04_alike
end Go.Proofs.YtckbgeedlobfaaaDoor
