/-
  Texts of this claim: T02R2, T02G.
-/
import Derived.Test.YtckbgeedlobfaaaDoorY04
set_option linter.unusedVariables false
set_option maxRecDepth 100000
/- Shallow programs, written by a program of ours (gen.py) off the translation; each is tied to the code by the kernel. -/
namespace Go.Proofs.YtckbgeedlobfaaaDoor
open Go.Px Tryd
abbrev cP4 (R:EP):=codeP prog (pan R)
variable (R:EP) (ρ:Env) (w:World)

/-! ### presage/presageref02.Same -/
namespace ref02_Same
noncomputable def code:Code:=bodyOf f20
noncomputable abbrev p1:Code:=dropC 2 code
noncomputable abbrev p2:Code:=sndC (sndC p1)
noncomputable abbrev p3:Code:=sndC (sndC p2)

def b6 (w:World) (_r:Tok R:=tok R):Prop :=
 R (.returned (.bool Bool.true)) w
abbrev q1:XP:=QX (fun ρ w=>R (.returned (ρ 4)) w) (fun ρ w=>R (.returned (ρ 4)) w) []
theorem b6_ok (h:b6 R w):cP4 R p3 (q1 R) ρ w:=cast (by kernel_rfl) h
noncomputable abbrev p4:Code:=fstC (sndC p2)
noncomputable abbrev p5:Code:=dropC 1 p4
noncomputable abbrev p6:Code:=loopC (blkC p5)
noncomputable abbrev p7:Code:=dropC 1 p6

def b12 (C9:VP) (x8:Value) (w:World) (_r:Tok R:=tok R) (_C9:Tok C9:=tok C9):Prop :=
 RUN prog (pan R) (bins .add 3 (.tmp 94) (.const (.int .i64 1)) x8 (.int .i64 1)) w fun v1 w2 =>
 C9 v1 w2
abbrev q2 (C9:VP):XP:=QX (fun ρ w=>C9 (ρ 8) w) (fun ρ w=>R (.returned (ρ 4)) w) [(8,(fun ρ w=>b6 R  w))]
theorem b12_ok (R:EP) (C9:VP) (ρ:Env) (w:World) (h:b12 R C9 (ρ 8) w):cP4 R (sndC p7) (q2 R C9) ρ w:=cast (by kernel_rfl) h
noncomputable abbrev p8:Code:=blkC (fstC p7)
noncomputable abbrev p9:Code:=dropC 4 p8

def b15 (C9:VP) (x8 x126:Value) (w:World) (_r:Tok R:=tok R) (_C9:Tok C9:=tok C9):Prop :=
 SPL x126
 (R (.returned (.bool Bool.false)) w)
 (b12 R C9 x8 w)
abbrev q3 (C9:VP):XP:=QX (fun ρ w=>b12 R C9 (ρ 8) w) (fun ρ w=>R (.returned (ρ 4)) w) [(10,(fun ρ w=>b12 R C9 (ρ 8) w)),(8,(fun ρ w=>b6 R  w))]
theorem b15_ok (R:EP) (C9:VP) (ρ:Env) (w:World) (h:b15 R C9 (ρ 8) (ρ 126) w):cP4 R p9 (q3 R C9) ρ w:=cast (by kernel_rfl) h
def b14_1 (C9:VP) (x8 v9 v20:Value) (w44:World) (_r:Tok R:=tok R) (_C9:Tok C9:=tok C9):Prop :=
 RUN prog (pan R) (Instr.fieldAt 37 v9 2) w44 fun v45 w46 =>
 RUN prog (pan R) (Instr.loadAt 3 v45) w46 fun v47 w48 =>
 RUN prog (pan R) (Instr.fieldAt 37 v20 2) w48 fun v49 w50 =>
 RUN prog (pan R) (Instr.loadAt 3 v49) w50 fun v51 w52 =>
 RUN prog (pan R) (bins .neq 3 (.tmp 122) (.tmp 124) v47 v51) w52 fun v53 w54 =>
 b15 R C9 x8 v53 w54
def b14_2 (C9:VP) (x8 v9 v20:Value) (w34:World) (_r:Tok R:=tok R) (_C9:Tok C9:=tok C9):Prop :=
 RUN prog (pan R) (Instr.fieldAt 37 v9 0) w34 fun v35 w36 =>
 RUN prog (pan R) (Instr.loadAt 3 v35) w36 fun v37 w38 =>
 RUN prog (pan R) (Instr.fieldAt 37 v20 0) w38 fun v39 w40 =>
 RUN prog (pan R) (Instr.loadAt 3 v39) w40 fun v41 w42 =>
 RUN prog (pan R) (bins .neq 3 (.tmp 115) (.tmp 117) v37 v41) w42 fun v43 w44 =>
 SPL v43
 (b15 R C9 x8 (.bool Bool.true) w44)
 (b14_1 R C9 x8 v9 v20 w44)

def b14 (C9:VP) (x2 x3 x8:Value) (w:World) (_r:Tok R:=tok R) (_C9:Tok C9:=tok C9):Prop :=
 RUN prog (pan R) (Instr.fieldAt 28 x2 4) w fun v1 w2 =>
 RUN prog (pan R) (Instr.loadAt 26 v1) w2 fun v3 w4 =>
 RUN prog (pan R) (Instr.indexAt 26 v3 x8) w4 fun v5 w6 =>
 RUN prog (pan R) (Instr.loadAt 37 v5) w6 fun v7 w8 =>
 RUN prog (pan R) (Instr.alloc 37 true (.tuple #[])) w8 fun v9 w10 =>
 RUNU prog (pan R) (Instr.storeAt 37 v9 v7) w10 fun w11 =>
 RUN prog (pan R) (Instr.fieldAt 28 x3 4) w11 fun v12 w13 =>
 RUN prog (pan R) (Instr.loadAt 26 v12) w13 fun v14 w15 =>
 RUN prog (pan R) (Instr.indexAt 26 v14 x8) w15 fun v16 w17 =>
 RUN prog (pan R) (Instr.loadAt 37 v16) w17 fun v18 w19 =>
 RUN prog (pan R) (Instr.alloc 37 true (.tuple #[])) w19 fun v20 w21 =>
 RUNU prog (pan R) (Instr.storeAt 37 v20 v18) w21 fun w22 =>
 RUN prog (pan R) (Instr.fieldAt 37 v9 1) w22 fun v23 w24 =>
 RUN prog (pan R) (Instr.loadAt 25 v23) w24 fun v25 w26 =>
 RUN prog (pan R) (Instr.fieldAt 37 v20 1) w26 fun v27 w28 =>
 RUN prog (pan R) (Instr.loadAt 25 v27) w28 fun v29 w30 =>
 CALL prog (pan R) ref02_SameInts.id #[v25,v29] w30 fun v31 w32 =>
 RUN prog (pan R) (Op.unary .not v31) w32 fun v33 w34 =>
 SPL v33
 (b15 R C9 x8 (.bool Bool.true) w34)
 (b14_2 R C9 x8 v9 v20 w34)
abbrev q4 (C9:VP):XP:=QX (fun ρ w=>b15 R C9 (ρ 8) (ρ 126) w) (fun ρ w=>R (.returned (ρ 4)) w) [(10,(fun ρ w=>b12 R C9 (ρ 8) w)),(8,(fun ρ w=>b6 R  w))]
theorem b14_eq (R:EP) (C9:VP) (ρ:Env) (w:World):(b14 R C9 (ρ 2) (ρ 3) (ρ 8) w)=cP4 R (preC 3 p8) (q4 R C9) ρ w:=by kernel_rfl
theorem b14_ok (R:EP) (C9:VP) (ρ:Env) (w:World) (h:b14 R C9 (ρ 2) (ρ 3) (ρ 8) w):cP4 R p8 (q3 R C9) ρ w:=by
 have e:appC 3 (preC 3 p8) (dropC 4 p8)=p8:=by kernel_rfl
 rw [←e]
 exact appQ (fun ρ w=>b15 R C9 (ρ 8) (ρ 126) w) 3 ((b14_eq R C9 ρ w).mp h) (fun ρ w h=>b15_ok R C9 ρ w h)
abbrev q5 (C9:VP):XP:=QX (fun ρ w=>b12 R C9 (ρ 8) w) (fun ρ w=>R (.returned (ρ 4)) w) [(8,(fun ρ w=>b6 R  w))]
theorem k13_ok (R:EP) (C9:VP) (ρ:Env) (w:World) (h:b14 R C9 (ρ 2) (ρ 3) (ρ 8) w):cP4 R (fstC p7) (q5 R C9) ρ w:=by
 have e:Code.block 5 (blkC (fstC p7))=(fstC p7):=by kernel_rfl
 rw [←e]
 exact blockQ (b14_ok R C9 ρ w h)
theorem k11_ok (R:EP) (C9:VP) (ρ:Env) (w:World) (h:b14 R C9 (ρ 2) (ρ 3) (ρ 8) w):cP4 R p7 (q2 R C9) ρ w:=by
 have e:Code.seq (fstC p7) (sndC p7)=p7:=by kernel_rfl
 rw [←e]
 exact seqQ (fun ρ w=>b12 R C9 (ρ 8) w) (k13_ok R C9 ρ w h) (fun ρ w h=>b12_ok R C9 ρ w h)

def b10 (C9:VP) (x2 x3 x8:Value) (w:World) (_r:Tok R:=tok R) (_C9:Tok C9:=tok C9):Prop :=
 RUN prog (pan R) (Instr.fieldAt 28 x2 4) w fun v1 w2 =>
 RUN prog (pan R) (Instr.loadAt 26 v1) w2 fun v3 w4 =>
 RUN prog (pan R) (Builtin.len_ #[26] 3 #[v3]) w4 fun v5 w6 =>
 RUN prog (pan R) (bins .lss 3 (.tmp 89) (.tmp 92) x8 v5) w6 fun v7 w8 =>
 SPL v7
 (b14 R C9 x2 x3 x8 w8)
 (b6 R w8)
abbrev q6 (C9:VP):XP:=QX (fun ρ w=>b14 R C9 (ρ 2) (ρ 3) (ρ 8) w) (fun ρ w=>R (.returned (ρ 4)) w) [(8,(fun ρ w=>b6 R  w))]
theorem b10_eq (R:EP) (C9:VP) (ρ:Env) (w:World):(b10 R C9 (ρ 2) (ρ 3) (ρ 8) w)=cP4 R (preC 0 p6) (q6 R C9) ρ w:=by kernel_rfl
theorem b10_ok (R:EP) (C9:VP) (ρ:Env) (w:World) (h:b10 R C9 (ρ 2) (ρ 3) (ρ 8) w):cP4 R p6 (q2 R C9) ρ w:=by
 have e:appC 0 (preC 0 p6) (dropC 1 p6)=p6:=by kernel_rfl
 rw [←e]
 exact appQ (fun ρ w=>b14 R C9 (ρ 2) (ρ 3) (ρ 8) w) 0 ((b10_eq R C9 ρ w).mp h) (fun ρ w h=>k11_ok R C9 ρ w h)

def l9 (x2 x3 x8:Value) (w:World) (_r:Tok R:=tok R):Prop :=
 ∃(J:VP) (μ:Value→World→Nat),J x8 w∧∀y8 w0,J y8 w0→b10 R (fun z8 w1=>J z8 w1∧μ z8 w1<μ y8 w0) x2 x3 y8 w0
abbrev q7:XP:=QX (fun ρ w=>b6 R  w) (fun ρ w=>R (.returned (ρ 4)) w) [(8,(fun ρ w=>b6 R  w))]
theorem l9_ok (h:l9 R (ρ 2) (ρ 3) (ρ 8) w):cP4 R (blkC p5) (q7 R) ρ w:=by
 unfold l9 at h
 obtain ⟨J,μ,h0,hr⟩:=h
 have e:Code.loop (loopC (blkC p5))=(blkC p5):=by kernel_rfl
 rw [←e]
 refine loopQ (fun ρ' w'=>J (ρ' 8) w') (fun ρ' w'=>μ (ρ' 8) w') h0 fun ρ' w' hA hI=>?_
 have e2:ρ' 2=ρ 2:=Agree.at hA 2 (by kernel_rfl)
 have e3:ρ' 3=ρ 3:=Agree.at hA 3 (by kernel_rfl)
 have h1:=hr (ρ' 8) w' hI
 rw [←e2,←e3] at h1
 exact b10_ok R (fun z8 w1=>J z8 w1∧μ z8 w1<μ (ρ' 8) w') ρ' w' h1
theorem l9_intro (R:EP) (x2 x3 x8:Value) (w:World) (J:VP) (μ:Value→World→Nat) (h0:J x8 w)
  (hr:∀y8 w0,J y8 w0→∀C9:VP,(∀z8 w1,J z8 w1→μ z8 w1<μ y8 w0→C9 z8 w1)→b10 R C9 x2 x3 y8 w0):l9 R x2 x3 x8 w:=by
 unfold l9
 exact ⟨J,μ,h0,fun y8 w0 hJ=>hr y8 w0 hJ _ (fun z8 w1 h1 h2=>⟨h1,h2⟩)⟩
abbrev q8:XP:=QX (fun ρ w=>b6 R  w) (fun ρ w=>R (.returned (ρ 4)) w) []
theorem k8_ok (h:l9 R (ρ 2) (ρ 3) (ρ 8) w):cP4 R p5 (q8 R) ρ w:=by
 have e:Code.block 4 (blkC p5)=p5:=by kernel_rfl
 rw [←e]
 exact blockQ (l9_ok R ρ w h)

def b7 (x2 x3:Value) (w:World) (_r:Tok R:=tok R):Prop :=
 l9 R x2 x3 (.int .i64 0) w
abbrev q9:XP:=QX (fun ρ w=>l9 R (ρ 2) (ρ 3) (ρ 8) w) (fun ρ w=>R (.returned (ρ 4)) w) []
theorem b7_eq:(b7 R (ρ 2) (ρ 3) w)=cP4 R (preC 0 p4) (q9 R) ρ w:=by kernel_rfl
theorem b7_ok (h:b7 R (ρ 2) (ρ 3) w):cP4 R p4 (q8 R) ρ w:=by
 have e:appC 0 (preC 0 p4) (dropC 1 p4)=p4:=by kernel_rfl
 rw [←e]
 exact appQ (fun ρ w=>l9 R (ρ 2) (ρ 3) (ρ 8) w) 0 ((b7_eq R ρ w).mp h) (fun ρ w h=>k8_ok R ρ w h)
theorem k5_ok (h:b7 R (ρ 2) (ρ 3) w):cP4 R (sndC p2) (q1 R) ρ w:=by
 have e:Code.seq (fstC (sndC p2)) (sndC (sndC p2))=(sndC p2):=by kernel_rfl
 rw [←e]
 exact seqQ (fun ρ w=>b6 R  w) (b7_ok R ρ w h) (fun ρ w h=>b6_ok R ρ w h)
noncomputable abbrev p10:Code:=dropC 1 (fstC p2)
noncomputable abbrev p11:Code:=loopC (blkC p10)
def b19_1 (C18:VP) (x2 x3 x7:Value) (w8:World) (_r:Tok R:=tok R) (_C18:Tok C18:=tok C18):Prop :=
 PUR prog (Instr.fieldAt 28 x2 1) fun v9 =>
 LD prog (Instr.loadAt 24 v9) (World.drew w8) fun v10 =>
 PUR prog (Instr.indexAt 24 v10 x7) fun v11 =>
 LD prog (Instr.loadAt 9 v11) (World.drew w8) fun v12 =>
 PUR prog (Instr.fieldAt 28 x3 1) fun v13 =>
 LD prog (Instr.loadAt 24 v13) (World.drew w8) fun v14 =>
 PUR prog (Instr.indexAt 24 v14 x7) fun v15 =>
 LD prog (Instr.loadAt 9 v15) (World.drew w8) fun v16 =>
 PUR prog (bins .neq 9 (.tmp 82) (.tmp 87) v12 v16) fun v17 =>
 SPL v17
 (R (.returned (.bool Bool.false)) (World.drew w8))
 (RUN prog (pan R) (bins .add 3 (.tmp 76) (.const (.int .i64 1)) x7 (.int .i64 1)) (World.drew w8) fun v18 w19 =>
 C18 v18 w19)

def b19 (C18:VP) (x2 x3 x7:Value) (w:World) (_r:Tok R:=tok R) (_C18:Tok C18:=tok C18):Prop :=
 RUN prog (pan R) (Instr.fieldAt 28 x2 1) w fun v1 w2 =>
 RUN prog (pan R) (Instr.loadAt 24 v1) w2 fun v3 w4 =>
 RUN prog (pan R) (Builtin.len_ #[24] 3 #[v3]) w4 fun v5 w6 =>
 RUN prog (pan R) (bins .lss 3 (.tmp 71) (.tmp 74) x7 v5) w6 fun v7 w8 =>
 SPL v7
 (b19_1 R C18 x2 x3 x7 w8)
 (b7 R x2 x3 w8)
abbrev q10 (C18:VP):XP:=QX (fun ρ w=>C18 (ρ 7) w) (fun ρ w=>R (.returned (ρ 4)) w) [(4,(fun ρ w=>b7 R (ρ 2) (ρ 3) w))]
theorem b19_ok (R:EP) (C18:VP) (ρ:Env) (w:World) (h:b19 R C18 (ρ 2) (ρ 3) (ρ 7) w):cP4 R p11 (q10 R C18) ρ w:=cast (by kernel_rfl) h

def l18 (x2 x3 x7:Value) (w:World) (_r:Tok R:=tok R):Prop :=
 ∃(J:VP) (μ:Value→World→Nat),J x7 w∧∀y7 w0,J y7 w0→b19 R (fun z7 w1=>J z7 w1∧μ z7 w1<μ y7 w0) x2 x3 y7 w0
abbrev q11:XP:=QX (fun ρ w=>b7 R (ρ 2) (ρ 3) w) (fun ρ w=>R (.returned (ρ 4)) w) [(4,(fun ρ w=>b7 R (ρ 2) (ρ 3) w))]
theorem l18_ok (h:l18 R (ρ 2) (ρ 3) (ρ 7) w):cP4 R (blkC p10) (q11 R) ρ w:=by
 unfold l18 at h
 obtain ⟨J,μ,h0,hr⟩:=h
 have e:Code.loop (loopC (blkC p10))=(blkC p10):=by kernel_rfl
 rw [←e]
 refine loopQ (fun ρ' w'=>J (ρ' 7) w') (fun ρ' w'=>μ (ρ' 7) w') h0 fun ρ' w' hA hI=>?_
 have e2:ρ' 2=ρ 2:=Agree.at hA 2 (by kernel_rfl)
 have e3:ρ' 3=ρ 3:=Agree.at hA 3 (by kernel_rfl)
 have h1:=hr (ρ' 7) w' hI
 rw [←e2,←e3] at h1
 exact b19_ok R (fun z7 w1=>J z7 w1∧μ z7 w1<μ (ρ' 7) w') ρ' w' h1
theorem l18_intro (R:EP) (x2 x3 x7:Value) (w:World) (J:VP) (μ:Value→World→Nat) (h0:J x7 w)
  (hr:∀y7 w0,J y7 w0→∀C18:VP,(∀z7 w1,J z7 w1→μ z7 w1<μ y7 w0→C18 z7 w1)→b19 R C18 x2 x3 y7 w0):l18 R x2 x3 x7 w:=by
 unfold l18
 exact ⟨J,μ,h0,fun y7 w0 hJ=>hr y7 w0 hJ _ (fun z7 w1 h1 h2=>⟨h1,h2⟩)⟩
abbrev q12:XP:=QX (fun ρ w=>b7 R (ρ 2) (ρ 3) w) (fun ρ w=>R (.returned (ρ 4)) w) []
theorem k17_ok (h:l18 R (ρ 2) (ρ 3) (ρ 7) w):cP4 R p10 (q12 R) ρ w:=by
 have e:Code.block 2 (blkC p10)=p10:=by kernel_rfl
 rw [←e]
 exact blockQ (l18_ok R ρ w h)

def b16 (x2 x3:Value) (w:World) (_r:Tok R:=tok R):Prop :=
 l18 R x2 x3 (.int .i64 0) w
abbrev q13:XP:=QX (fun ρ w=>l18 R (ρ 2) (ρ 3) (ρ 7) w) (fun ρ w=>R (.returned (ρ 4)) w) []
theorem b16_eq:(b16 R (ρ 2) (ρ 3) w)=cP4 R (preC 0 (fstC p2)) (q13 R) ρ w:=by kernel_rfl
theorem b16_ok (h:b16 R (ρ 2) (ρ 3) w):cP4 R (fstC p2) (q12 R) ρ w:=by
 have e:appC 0 (preC 0 (fstC p2)) (dropC 1 (fstC p2))=(fstC p2):=by kernel_rfl
 rw [←e]
 exact appQ (fun ρ w=>l18 R (ρ 2) (ρ 3) (ρ 7) w) 0 ((b16_eq R ρ w).mp h) (fun ρ w h=>k17_ok R ρ w h)
theorem k4_ok (h:b16 R (ρ 2) (ρ 3) w):cP4 R p2 (q1 R) ρ w:=by
 have e:Code.seq (fstC p2) (sndC p2)=p2:=by kernel_rfl
 rw [←e]
 exact seqQ (fun ρ w=>b7 R (ρ 2) (ρ 3) w) (b16_ok R ρ w h) (fun ρ w h=>k5_ok R ρ w h)
noncomputable abbrev p12:Code:=fstC (sndC p1)
noncomputable abbrev p13:Code:=dropC 1 p12
noncomputable abbrev p14:Code:=loopC (blkC p13)
def b23_1 (C22:VP) (x2 x3 x6:Value) (w8:World) (_r:Tok R:=tok R) (_C22:Tok C22:=tok C22):Prop :=
 PUR prog (Instr.fieldAt 28 x2 0) fun v9 =>
 LD prog (Instr.loadAt 23 v9) (World.drew w8) fun v10 =>
 PUR prog (Instr.indexAt 23 v10 x6) fun v11 =>
 LD prog (Instr.loadAt 39 v11) (World.drew w8) fun v12 =>
 PUR prog (Instr.fieldAt 28 x3 0) fun v13 =>
 LD prog (Instr.loadAt 23 v13) (World.drew w8) fun v14 =>
 PUR prog (Instr.indexAt 23 v14 x6) fun v15 =>
 LD prog (Instr.loadAt 39 v15) (World.drew w8) fun v16 =>
 PUR prog (bins .neq 39 (.tmp 64) (.tmp 69) v12 v16) fun v17 =>
 SPL v17
 (R (.returned (.bool Bool.false)) (World.drew w8))
 (RUN prog (pan R) (bins .add 3 (.tmp 58) (.const (.int .i64 1)) x6 (.int .i64 1)) (World.drew w8) fun v18 w19 =>
 C22 v18 w19)

def b23 (C22:VP) (x2 x3 x6:Value) (w:World) (_r:Tok R:=tok R) (_C22:Tok C22:=tok C22):Prop :=
 RUN prog (pan R) (Instr.fieldAt 28 x2 0) w fun v1 w2 =>
 RUN prog (pan R) (Instr.loadAt 23 v1) w2 fun v3 w4 =>
 RUN prog (pan R) (Builtin.len_ #[23] 3 #[v3]) w4 fun v5 w6 =>
 RUN prog (pan R) (bins .lss 3 (.tmp 53) (.tmp 56) x6 v5) w6 fun v7 w8 =>
 SPL v7
 (b23_1 R C22 x2 x3 x6 w8)
 (b16 R x2 x3 w8)
abbrev q14 (C22:VP):XP:=QX (fun ρ w=>C22 (ρ 6) w) (fun ρ w=>R (.returned (ρ 4)) w) [(0,(fun ρ w=>b16 R (ρ 2) (ρ 3) w))]
theorem b23_ok (R:EP) (C22:VP) (ρ:Env) (w:World) (h:b23 R C22 (ρ 2) (ρ 3) (ρ 6) w):cP4 R p14 (q14 R C22) ρ w:=cast (by kernel_rfl) h

def l22 (x2 x3 x6:Value) (w:World) (_r:Tok R:=tok R):Prop :=
 ∃(J:VP) (μ:Value→World→Nat),J x6 w∧∀y6 w0,J y6 w0→b23 R (fun z6 w1=>J z6 w1∧μ z6 w1<μ y6 w0) x2 x3 y6 w0
abbrev q15:XP:=QX (fun ρ w=>b16 R (ρ 2) (ρ 3) w) (fun ρ w=>R (.returned (ρ 4)) w) [(0,(fun ρ w=>b16 R (ρ 2) (ρ 3) w))]
theorem l22_ok (h:l22 R (ρ 2) (ρ 3) (ρ 6) w):cP4 R (blkC p13) (q15 R) ρ w:=by
 unfold l22 at h
 obtain ⟨J,μ,h0,hr⟩:=h
 have e:Code.loop (loopC (blkC p13))=(blkC p13):=by kernel_rfl
 rw [←e]
 refine loopQ (fun ρ' w'=>J (ρ' 6) w') (fun ρ' w'=>μ (ρ' 6) w') h0 fun ρ' w' hA hI=>?_
 have e2:ρ' 2=ρ 2:=Agree.at hA 2 (by kernel_rfl)
 have e3:ρ' 3=ρ 3:=Agree.at hA 3 (by kernel_rfl)
 have h1:=hr (ρ' 6) w' hI
 rw [←e2,←e3] at h1
 exact b23_ok R (fun z6 w1=>J z6 w1∧μ z6 w1<μ (ρ' 6) w') ρ' w' h1
theorem l22_intro (R:EP) (x2 x3 x6:Value) (w:World) (J:VP) (μ:Value→World→Nat) (h0:J x6 w)
  (hr:∀y6 w0,J y6 w0→∀C22:VP,(∀z6 w1,J z6 w1→μ z6 w1<μ y6 w0→C22 z6 w1)→b23 R C22 x2 x3 y6 w0):l22 R x2 x3 x6 w:=by
 unfold l22
 exact ⟨J,μ,h0,fun y6 w0 hJ=>hr y6 w0 hJ _ (fun z6 w1 h1 h2=>⟨h1,h2⟩)⟩
abbrev q16:XP:=QX (fun ρ w=>b16 R (ρ 2) (ρ 3) w) (fun ρ w=>R (.returned (ρ 4)) w) []
theorem k21_ok (h:l22 R (ρ 2) (ρ 3) (ρ 6) w):cP4 R p13 (q16 R) ρ w:=by
 have e:Code.block 0 (blkC p13)=p13:=by kernel_rfl
 rw [←e]
 exact blockQ (l22_ok R ρ w h)

def b20 (x2 x3:Value) (w:World) (_r:Tok R:=tok R):Prop :=
 l22 R x2 x3 (.int .i64 0) w
abbrev q17:XP:=QX (fun ρ w=>l22 R (ρ 2) (ρ 3) (ρ 6) w) (fun ρ w=>R (.returned (ρ 4)) w) []
theorem b20_eq:(b20 R (ρ 2) (ρ 3) w)=cP4 R (preC 0 p12) (q17 R) ρ w:=by kernel_rfl
theorem b20_ok (h:b20 R (ρ 2) (ρ 3) w):cP4 R p12 (q16 R) ρ w:=by
 have e:appC 0 (preC 0 p12) (dropC 1 p12)=p12:=by kernel_rfl
 rw [←e]
 exact appQ (fun ρ w=>l22 R (ρ 2) (ρ 3) (ρ 6) w) 0 ((b20_eq R ρ w).mp h) (fun ρ w h=>k21_ok R ρ w h)
theorem k3_ok (h:b20 R (ρ 2) (ρ 3) w):cP4 R (sndC p1) (q1 R) ρ w:=by
 have e:Code.seq (fstC (sndC p1)) (sndC (sndC p1))=(sndC p1):=by kernel_rfl
 rw [←e]
 exact seqQ (fun ρ w=>b16 R (ρ 2) (ρ 3) w) (b20_ok R ρ w h) (fun ρ w h=>k4_ok R ρ w h)
noncomputable abbrev p15:Code:=dropC 1 (fstC p1)

def b25 (x2 x3 x52:Value) (w:World) (_r:Tok R:=tok R):Prop :=
 SPL x52
 (R (.returned (.bool Bool.false)) w)
 (b20 R x2 x3 w)
abbrev q18:XP:=QX (fun ρ w=>b20 R (ρ 2) (ρ 3) w) (fun ρ w=>R (.returned (ρ 4)) w) []
theorem b25_ok (h:b25 R (ρ 2) (ρ 3) (ρ 52) w):cP4 R p15 (q18 R) ρ w:=cast (by kernel_rfl) h
def b24_1 (x2 x3:Value) (w40:World) (_r:Tok R:=tok R):Prop :=
 RUN prog (pan R) (Instr.fieldAt 28 x2 4) w40 fun v41 w42 =>
 RUN prog (pan R) (Instr.loadAt 26 v41) w42 fun v43 w44 =>
 RUN prog (pan R) (Builtin.len_ #[26] 3 #[v43]) w44 fun v45 w46 =>
 RUN prog (pan R) (Instr.fieldAt 28 x3 4) w46 fun v47 w48 =>
 RUN prog (pan R) (Instr.loadAt 26 v47) w48 fun v49 w50 =>
 RUN prog (pan R) (Builtin.len_ #[26] 3 #[v49]) w50 fun v51 w52 =>
 RUN prog (pan R) (bins .neq 3 (.tmp 47) (.tmp 50) v45 v51) w52 fun v53 w54 =>
 b25 R x2 x3 v53 w54
def b24_2 (x2 x3:Value) (w26:World) (_r:Tok R:=tok R):Prop :=
 RUN prog (pan R) (Instr.fieldAt 28 x2 1) w26 fun v27 w28 =>
 RUN prog (pan R) (Instr.loadAt 24 v27) w28 fun v29 w30 =>
 RUN prog (pan R) (Builtin.len_ #[24] 3 #[v29]) w30 fun v31 w32 =>
 RUN prog (pan R) (Instr.fieldAt 28 x3 1) w32 fun v33 w34 =>
 RUN prog (pan R) (Instr.loadAt 24 v33) w34 fun v35 w36 =>
 RUN prog (pan R) (Builtin.len_ #[24] 3 #[v35]) w36 fun v37 w38 =>
 RUN prog (pan R) (bins .neq 3 (.tmp 38) (.tmp 41) v31 v37) w38 fun v39 w40 =>
 SPL v39
 (b25 R x2 x3 (.bool Bool.true) w40)
 (b24_1 R x2 x3 w40)
def b24_3 (x2 x3:Value) (w12:World) (_r:Tok R:=tok R):Prop :=
 RUN prog (pan R) (Instr.fieldAt 28 x2 0) w12 fun v13 w14 =>
 RUN prog (pan R) (Instr.loadAt 23 v13) w14 fun v15 w16 =>
 RUN prog (pan R) (Builtin.len_ #[23] 3 #[v15]) w16 fun v17 w18 =>
 RUN prog (pan R) (Instr.fieldAt 28 x3 0) w18 fun v19 w20 =>
 RUN prog (pan R) (Instr.loadAt 23 v19) w20 fun v21 w22 =>
 RUN prog (pan R) (Builtin.len_ #[23] 3 #[v21]) w22 fun v23 w24 =>
 RUN prog (pan R) (bins .neq 3 (.tmp 29) (.tmp 32) v17 v23) w24 fun v25 w26 =>
 SPL v25
 (b25 R x2 x3 (.bool Bool.true) w26)
 (b24_2 R x2 x3 w26)
def b24_4 (x2 x3:Value) (w2:World) (_r:Tok R:=tok R):Prop :=
 RUN prog (pan R) (Instr.fieldAt 28 x2 3) w2 fun v3 w4 =>
 RUN prog (pan R) (Instr.loadAt 3 v3) w4 fun v5 w6 =>
 RUN prog (pan R) (Instr.fieldAt 28 x3 3) w6 fun v7 w8 =>
 RUN prog (pan R) (Instr.loadAt 3 v7) w8 fun v9 w10 =>
 RUN prog (pan R) (bins .neq 3 (.tmp 21) (.tmp 23) v5 v9) w10 fun v11 w12 =>
 SPL v11
 (b25 R x2 x3 (.bool Bool.true) w12)
 (b24_3 R x2 x3 w12)

def b24 (x2 x3 x5:Value) (w:World) (_r:Tok R:=tok R):Prop :=
 RUN prog (pan R) (Op.unary .not x5) w fun v1 w2 =>
 SPL v1
 (b25 R x2 x3 (.bool Bool.true) w2)
 (b24_4 R x2 x3 w2)
abbrev q19:XP:=QX (fun ρ w=>b25 R (ρ 2) (ρ 3) (ρ 52) w) (fun ρ w=>R (.returned (ρ 4)) w) []
theorem b24_eq:(b24 R (ρ 2) (ρ 3) (ρ 5) w)=cP4 R (preC 0 (fstC p1)) (q19 R) ρ w:=by kernel_rfl
theorem b24_ok (h:b24 R (ρ 2) (ρ 3) (ρ 5) w):cP4 R (fstC p1) (q18 R) ρ w:=by
 have e:appC 0 (preC 0 (fstC p1)) (dropC 1 (fstC p1))=(fstC p1):=by kernel_rfl
 rw [←e]
 exact appQ (fun ρ w=>b25 R (ρ 2) (ρ 3) (ρ 52) w) 0 ((b24_eq R ρ w).mp h) (fun ρ w h=>b25_ok R ρ w h)
theorem k2_ok (h:b24 R (ρ 2) (ρ 3) (ρ 5) w):cP4 R p1 (q1 R) ρ w:=by
 have e:Code.seq (fstC p1) (sndC p1)=p1:=by kernel_rfl
 rw [←e]
 exact seqQ (fun ρ w=>b20 R (ρ 2) (ρ 3) w) (b24_ok R ρ w h) (fun ρ w h=>k3_ok R ρ w h)

def b1 (x0 x1:Value) (w:World) (_r:Tok R:=tok R):Prop :=
 RUN prog (pan R) (Instr.box 28 x0) w fun v1 w2 =>
 RUN prog (pan R) (Instr.box 28 x1) w2 fun v3 w4 =>
 RUN prog (pan R) (Instr.fieldAt 28 v1 2) w4 fun v5 w6 =>
 RUN prog (pan R) (Instr.loadAt 25 v5) w6 fun v7 w8 =>
 RUN prog (pan R) (Instr.fieldAt 28 v3 2) w8 fun v9 w10 =>
 RUN prog (pan R) (Instr.loadAt 25 v9) w10 fun v11 w12 =>
 CALL prog (pan R) ref02_SameInts.id #[v7,v11] w12 fun v13 w14 =>
 b24 R v1 v3 v13 w14
abbrev q20:XP:=QX (fun ρ w=>b24 R (ρ 2) (ρ 3) (ρ 5) w) (fun ρ w=>R (.returned (ρ 4)) w) []
theorem b1_eq:(b1 R (ρ 0) (ρ 1) w)=cP4 R (preC 1 code) (q20 R) ρ w:=by kernel_rfl
theorem b1_ok (h:b1 R (ρ 0) (ρ 1) w):cP4 R code (q1 R) ρ w:=by
 have e:appC 1 (preC 1 code) (dropC 2 code)=code:=by kernel_rfl
 rw [←e]
 exact appQ (fun ρ w=>b24 R (ρ 2) (ρ 3) (ρ 5) w) 1 ((b1_eq R ρ w).mp h) (fun ρ w h=>k2_ok R ρ w h)
/-- What is owed for a call. -/
def run (a0 a1:Value) (w:World):Prop:=b1 R a0 a1 w
theorem calls (R:EP) (a0 a1:Value) (w:World) (h:run R a0 a1 w):Calls prog id #[a0,a1] w R :=
 calls_of_t (f:=id) (fn:=f20) (c:=code) (by kernel_rfl) func20 (by kernel_rfl) (by kernel_rfl) (args:=[a0,a1]) (Nat.le_of_ble_eq_true rfl) rfl (b1_ok R (envOf [a0,a1]) w h)
theorem enters:Enters prog id:=fun args w=>call20 args w
theorem ct {a0 a1:Value} {w:World} {S:VP} (h:∀R:EP,(∀v w,S v w→R (.returned v) w)→run R a0 a1 w):Ct prog id #[a0,a1] w S :=
 Ct.intro enters fun R hR=>calls R a0 a1 w (h R hR)
attribute [irreducible] b6 b12 b15 b14_1 b14_2 b14 b10 l9 b7 b19_1 b19 l18 b16 b23_1 b23 l22 b20 b25 b24_1 b24_2 b24_3 b24_4 b24 b1 run
attribute [go_sem] b6 b12 b15 b14_1 b14_2 b14 b10 b7 b19_1 b19 b16 b23_1 b23 b20 b25 b24_1 b24_2 b24_3 b24_4 b24 b1 run
end ref02_Same

end Go.Proofs.YtckbgeedlobfaaaDoor

/- Shallow programs, written by a program of ours (gen.py) off the translation; each is tied to the code by the kernel. -/
namespace Go.Proofs.YtckbgeedlobfaaaDoor
open Go.Px Tryd
abbrev cP5 (R:EP):=codeP prog (pan R)
variable (R:EP) (ρ:Env) (w:World)

/-! ### presage/gram.New -/
namespace gram_New
noncomputable def code:Code:=bodyOf f27

def b1 (w:World) (_r:Tok R:=tok R):Prop :=
 RUN prog (pan R) (Instr.build 103 #[]) w fun v1 w2 =>
 RUN prog (pan R) (Instr.box 103 v1) w2 fun v3 w4 =>
 R (.returned v3) w4
abbrev q1:XP:=QX (fun ρ w=>R (.returned (ρ 0)) w) (fun ρ w=>R (.returned (ρ 0)) w) []
theorem b1_ok (h:b1 R w):cP5 R code (q1 R) ρ w:=cast (by kernel_rfl) h
/-- What is owed for a call. -/
def run (w:World):Prop:=b1 R w
theorem calls (R:EP) (w:World) (h:run R w):Calls prog id #[] w R :=
 calls_of_t (f:=id) (fn:=f27) (c:=code) (by kernel_rfl) func27 (by kernel_rfl) (by kernel_rfl) (args:=[]) (Nat.le_of_ble_eq_true rfl) rfl (b1_ok R (envOf []) w h)
theorem enters:Enters prog id:=fun args w=>call27 args w
theorem ct {w:World} {S:VP} (h:∀R:EP,(∀v w,S v w→R (.returned v) w)→run R w):Ct prog id #[] w S :=
 Ct.intro enters fun R hR=>calls R w (h R hR)
attribute [irreducible] b1 run
end gram_New

/-! ### (*presage/gram.Builder).Term -/
namespace gram_Builder_Term
noncomputable def code:Code:=bodyOf f45
noncomputable abbrev p1:Code:=dropC 1 code
def b3 (x0 x1:Value) (w:World) (_r:Tok R:=tok R):Prop :=
 NILC x0 fun v1 =>
 RUN prog (pan R) (Instr.fieldAt 103 v1 0) w fun v2 w3 =>
 CALL prog (pan R) gram_names_find.id #[v2,x1] w3 fun v4 w5 =>
 RUN prog (pan R) (bins .gtr 3 (.tmp 19) (.const (.int .i64 0)) v4 (.int .i64 0)) w5 fun v6 w7 =>
 SPL v6
 (R (.returned (.tuple #[v4,(.int .i64 0)])) w7)
 (NILC x0 fun v8 =>
 PUR prog (Instr.fieldAt 103 v8 0) fun v9 =>
 NILC x0 fun v10 =>
 PUR prog (Instr.fieldAt 103 v10 1) fun v11 =>
 PUR prog (Instr.fieldAt 100 v11 0) fun v12 =>
 CALL prog (pan R) gram_names_size.id #[v9] (World.drew w7) fun v13 w14 =>
 CALL prog (pan R) gram_names_size.id #[v12] w14 fun v15 w16 =>
 PUR prog (bins .add 3 (.tmp 25) (.tmp 30) v13 v15) fun v17 =>
 PUR prog (bins .geq 3 (.tmp 31) (.const (.int .i64 64)) v17 (.int .i64 64)) fun v18 =>
 SPL v18
 (R (.returned (.tuple #[(.int .i64 0),(.int .i64 11)])) w16)
 (NILC x0 fun v19 =>
 RUN prog (pan R) (Instr.fieldAt 103 v19 2) w16 fun v20 w21 =>
 RUN prog (pan R) (Instr.loadAt 25 v20) w21 fun v22 w23 =>
 RUN prog (pan R) (Instr.buildSlice 25 1 #[(0,(.int .i64 0))]) w23 fun v24 w25 =>
 RUN prog (pan R) (Builtin.append_ #[25,25] 25 #[v22,v24]) w25 fun v26 w27 =>
 NILC x0 fun v28 =>
 RUN prog (pan R) (Instr.fieldAt 103 v28 2) w27 fun v29 w30 =>
 RUNU prog (pan R) (Instr.storeAt 25 v29 v26) w30 fun w31 =>
 NILC x0 fun v32 =>
 RUN prog (pan R) (Instr.fieldAt 103 v32 0) w31 fun v33 w34 =>
 CALL prog (pan R) gram_names_intern.id #[v33,x1] w34 fun v35 w36 =>
 R (.returned (.tuple #[v35,(.int .i64 0)])) w36))
abbrev q1:XP:=QX (fun ρ w=>R (.returned (.tuple #[(ρ 4),(ρ 5)])) w) (fun ρ w=>R (.returned (.tuple #[(ρ 4),(ρ 5)])) w) []
theorem b3_ok (h:b3 R (ρ 0) (ρ 1) w):cP5 R (sndC p1) (q1 R) ρ w:=cast (by kernel_rfl) h
noncomputable abbrev p2:Code:=dropC 1 (fstC p1)
def b5 (x0 x1 x13:Value) (w:World) (_r:Tok R:=tok R):Prop :=
 SPL x13
 (R (.returned (.tuple #[(.int .i64 0),(.int .i64 1)])) w)
 (b3 R x0 x1 w)
abbrev q2:XP:=QX (fun ρ w=>b3 R (ρ 0) (ρ 1) w) (fun ρ w=>R (.returned (.tuple #[(ρ 4),(ρ 5)])) w) []
theorem b5_ok (h:b5 R (ρ 0) (ρ 1) (ρ 13) w):cP5 R p2 (q2 R) ρ w:=cast (by kernel_rfl) h
def b4 (x0 x1:Value) (w:World) (_r:Tok R:=tok R):Prop :=
 RUN prog (pan R) (bins .eql 61 (.tmp 7) (.const (.pointer Option.none)) x0 (.pointer Option.none)) w fun v1 w2 =>
 SPL v1
 (b5 R x0 x1 (.bool Bool.true) w2)
 (CALL prog (pan R) gram_isTerm.id #[x1] w2 fun v3 w4 =>
 RUN prog (pan R) (Op.unary .not v3) w4 fun v5 w6 =>
 b5 R x0 x1 v5 w6)
abbrev q3:XP:=QX (fun ρ w=>b5 R (ρ 0) (ρ 1) (ρ 13) w) (fun ρ w=>R (.returned (.tuple #[(ρ 4),(ρ 5)])) w) []
theorem b4_eq:(b4 R (ρ 0) (ρ 1) w)=cP5 R (preC 0 (fstC p1)) (q3 R) ρ w:=by kernel_rfl
theorem b4_ok (h:b4 R (ρ 0) (ρ 1) w):cP5 R (fstC p1) (q2 R) ρ w:=by
 have e:appC 0 (preC 0 (fstC p1)) (dropC 1 (fstC p1))=(fstC p1):=by kernel_rfl
 rw [←e]
 exact appQ (fun ρ w=>b5 R (ρ 0) (ρ 1) (ρ 13) w) 0 ((b4_eq R ρ w).mp h) (fun ρ w h=>b5_ok R ρ w h)
theorem k2_ok (h:b4 R (ρ 0) (ρ 1) w):cP5 R p1 (q1 R) ρ w:=by
 have e:Code.seq (fstC p1) (sndC p1)=p1:=by kernel_rfl
 rw [←e]
 exact seqQ (fun ρ w=>b3 R (ρ 0) (ρ 1) w) (b4_ok R ρ w h) (fun ρ w h=>b3_ok R ρ w h)
def b1 (x0 x1:Value) (w:World) (_r:Tok R:=tok R):Prop :=
 b4 R x0 x1 w
abbrev q4:XP:=QX (fun ρ w=>b4 R (ρ 0) (ρ 1) w) (fun ρ w=>R (.returned (.tuple #[(ρ 4),(ρ 5)])) w) []
theorem b1_eq:(b1 R (ρ 0) (ρ 1) w)=cP5 R (preC 0 code) (q4 R) ρ w:=by kernel_rfl
theorem b1_ok (h:b1 R (ρ 0) (ρ 1) w):cP5 R code (q1 R) ρ w:=by
 have e:appC 0 (preC 0 code) (dropC 1 code)=code:=by kernel_rfl
 rw [←e]
 exact appQ (fun ρ w=>b4 R (ρ 0) (ρ 1) w) 0 ((b1_eq R ρ w).mp h) (fun ρ w h=>k2_ok R ρ w h)
/-- What is owed for a call. -/
def run (a0 a1:Value) (w:World):Prop:=b1 R a0 a1 w
theorem calls (R:EP) (a0 a1:Value) (w:World) (h:run R a0 a1 w):Calls prog id #[a0,a1] w R :=
 calls_of_tt (f:=id) (fn:=f45) (c:=code) (by kernel_rfl) func45 (by kernel_rfl) (by kernel_rfl) (args:=[a0,a1]) (Nat.le_of_ble_eq_true rfl) rfl (b1_ok R (envOf [a0,a1]) w h)
theorem enters:Enters prog id:=fun args w=>call45 args w
theorem ct {a0 a1:Value} {w:World} {S:VP} (h:∀R:EP,(∀v w,S v w→R (.returned v) w)→run R a0 a1 w):Ct prog id #[a0,a1] w S :=
 Ct.intro enters fun R hR=>calls R a0 a1 w (h R hR)
attribute [irreducible] b3 b5 b4 b1 run
end gram_Builder_Term

/-! ### (*presage/gram.Builder).Start -/
namespace gram_Builder_Start
noncomputable def code:Code:=bodyOf f51
noncomputable abbrev p1:Code:=dropC 1 code
def b3 (x0 x1:Value) (w:World) (_r:Tok R:=tok R):Prop :=
 NILC x0 fun v1 =>
 RUN prog (pan R) (Instr.fieldAt 103 v1 5) w fun v2 w3 =>
 RUNU prog (pan R) (Instr.storeAt 3 v2 x1) w3 fun w4 =>
 R (.returned (.int .i64 0)) w4
abbrev q1:XP:=QX (fun ρ w=>R (.returned (ρ 4)) w) (fun ρ w=>R (.returned (ρ 4)) w) []
theorem b3_ok (h:b3 R (ρ 0) (ρ 1) w):cP5 R (sndC p1) (q1 R) ρ w:=cast (by kernel_rfl) h
noncomputable abbrev p2:Code:=dropC 1 (fstC p1)
def b5 (x0 x1 x12:Value) (w:World) (_r:Tok R:=tok R):Prop :=
 SPL x12
 (R (.returned (.int .i64 1)) w)
 (b3 R x0 x1 w)
abbrev q2:XP:=QX (fun ρ w=>b3 R (ρ 0) (ρ 1) w) (fun ρ w=>R (.returned (ρ 4)) w) []
theorem b5_ok (h:b5 R (ρ 0) (ρ 1) (ρ 12) w):cP5 R p2 (q2 R) ρ w:=cast (by kernel_rfl) h
def b4 (x0 x1:Value) (w:World) (_r:Tok R:=tok R):Prop :=
 RUN prog (pan R) (bins .eql 61 (.tmp 5) (.const (.pointer Option.none)) x0 (.pointer Option.none)) w fun v1 w2 =>
 SPL v1
 (b5 R x0 x1 (.bool Bool.true) w2)
 (CALL prog (pan R) gram_Builder_isNonHandle.id #[x0,x1] w2 fun v3 w4 =>
 RUN prog (pan R) (Op.unary .not v3) w4 fun v5 w6 =>
 b5 R x0 x1 v5 w6)
abbrev q3:XP:=QX (fun ρ w=>b5 R (ρ 0) (ρ 1) (ρ 12) w) (fun ρ w=>R (.returned (ρ 4)) w) []
theorem b4_eq:(b4 R (ρ 0) (ρ 1) w)=cP5 R (preC 0 (fstC p1)) (q3 R) ρ w:=by kernel_rfl
theorem b4_ok (h:b4 R (ρ 0) (ρ 1) w):cP5 R (fstC p1) (q2 R) ρ w:=by
 have e:appC 0 (preC 0 (fstC p1)) (dropC 1 (fstC p1))=(fstC p1):=by kernel_rfl
 rw [←e]
 exact appQ (fun ρ w=>b5 R (ρ 0) (ρ 1) (ρ 12) w) 0 ((b4_eq R ρ w).mp h) (fun ρ w h=>b5_ok R ρ w h)
theorem k2_ok (h:b4 R (ρ 0) (ρ 1) w):cP5 R p1 (q1 R) ρ w:=by
 have e:Code.seq (fstC p1) (sndC p1)=p1:=by kernel_rfl
 rw [←e]
 exact seqQ (fun ρ w=>b3 R (ρ 0) (ρ 1) w) (b4_ok R ρ w h) (fun ρ w h=>b3_ok R ρ w h)
def b1 (x0 x1:Value) (w:World) (_r:Tok R:=tok R):Prop :=
 b4 R x0 x1 w
abbrev q4:XP:=QX (fun ρ w=>b4 R (ρ 0) (ρ 1) w) (fun ρ w=>R (.returned (ρ 4)) w) []
theorem b1_eq:(b1 R (ρ 0) (ρ 1) w)=cP5 R (preC 0 code) (q4 R) ρ w:=by kernel_rfl
theorem b1_ok (h:b1 R (ρ 0) (ρ 1) w):cP5 R code (q1 R) ρ w:=by
 have e:appC 0 (preC 0 code) (dropC 1 code)=code:=by kernel_rfl
 rw [←e]
 exact appQ (fun ρ w=>b4 R (ρ 0) (ρ 1) w) 0 ((b1_eq R ρ w).mp h) (fun ρ w h=>k2_ok R ρ w h)
/-- What is owed for a call. -/
def run (a0 a1:Value) (w:World):Prop:=b1 R a0 a1 w
theorem calls (R:EP) (a0 a1:Value) (w:World) (h:run R a0 a1 w):Calls prog id #[a0,a1] w R :=
 calls_of_t (f:=id) (fn:=f51) (c:=code) (by kernel_rfl) func51 (by kernel_rfl) (by kernel_rfl) (args:=[a0,a1]) (Nat.le_of_ble_eq_true rfl) rfl (b1_ok R (envOf [a0,a1]) w h)
theorem enters:Enters prog id:=fun args w=>call51 args w
theorem ct {a0 a1:Value} {w:World} {S:VP} (h:∀R:EP,(∀v w,S v w→R (.returned v) w)→run R a0 a1 w):Ct prog id #[a0,a1] w S :=
 Ct.intro enters fun R hR=>calls R a0 a1 w (h R hR)
attribute [irreducible] b3 b5 b4 b1 run
end gram_Builder_Start

/-! ### (*presage/gram.Builder).Non -/
namespace gram_Builder_Non
noncomputable def code:Code:=bodyOf f47
noncomputable abbrev p1:Code:=dropC 1 code
def b3 (x0 x1:Value) (w:World) (_r:Tok R:=tok R):Prop :=
 NILC x0 fun v1 =>
 RUN prog (pan R) (Instr.fieldAt 103 v1 1) w fun v2 w3 =>
 RUN prog (pan R) (Instr.fieldAt 100 v2 0) w3 fun v4 w5 =>
 CALL prog (pan R) gram_names_find.id #[v4,x1] w5 fun v6 w7 =>
 RUN prog (pan R) (bins .gtr 3 (.tmp 20) (.const (.int .i64 0)) v6 (.int .i64 0)) w7 fun v8 w9 =>
 SPL v8
 (RUN prog (pan R) (Op.unary .neg v6) w9 fun v10 w11 =>
 R (.returned (.tuple #[v10,(.int .i64 0)])) w11)
 (NILC x0 fun v12 =>
 PUR prog (Instr.fieldAt 103 v12 0) fun v13 =>
 NILC x0 fun v14 =>
 PUR prog (Instr.fieldAt 103 v14 1) fun v15 =>
 PUR prog (Instr.fieldAt 100 v15 0) fun v16 =>
 CALL prog (pan R) gram_names_size.id #[v13] (World.drew w9) fun v17 w18 =>
 CALL prog (pan R) gram_names_size.id #[v16] w18 fun v19 w20 =>
 PUR prog (bins .add 3 (.tmp 27) (.tmp 32) v17 v19) fun v21 =>
 PUR prog (bins .geq 3 (.tmp 33) (.const (.int .i64 64)) v21 (.int .i64 64)) fun v22 =>
 SPL v22
 (R (.returned (.tuple #[(.int .i64 0),(.int .i64 11)])) w20)
 (NILC x0 fun v23 =>
 RUN prog (pan R) (Instr.fieldAt 103 v23 1) w20 fun v24 w25 =>
 RUN prog (pan R) (Instr.fieldAt 100 v24 0) w25 fun v26 w27 =>
 CALL prog (pan R) gram_names_intern.id #[v26,x1] w27 fun v28 w29 =>
 RUN prog (pan R) (Op.unary .neg v28) w29 fun v30 w31 =>
 R (.returned (.tuple #[v30,(.int .i64 0)])) w31))
abbrev q1:XP:=QX (fun ρ w=>R (.returned (.tuple #[(ρ 4),(ρ 5)])) w) (fun ρ w=>R (.returned (.tuple #[(ρ 4),(ρ 5)])) w) []
theorem b3_ok (h:b3 R (ρ 0) (ρ 1) w):cP5 R (sndC p1) (q1 R) ρ w:=cast (by kernel_rfl) h
noncomputable abbrev p2:Code:=dropC 1 (fstC p1)
def b5 (x0 x1 x13:Value) (w:World) (_r:Tok R:=tok R):Prop :=
 SPL x13
 (R (.returned (.tuple #[(.int .i64 0),(.int .i64 1)])) w)
 (b3 R x0 x1 w)
abbrev q2:XP:=QX (fun ρ w=>b3 R (ρ 0) (ρ 1) w) (fun ρ w=>R (.returned (.tuple #[(ρ 4),(ρ 5)])) w) []
theorem b5_ok (h:b5 R (ρ 0) (ρ 1) (ρ 13) w):cP5 R p2 (q2 R) ρ w:=cast (by kernel_rfl) h
def b4 (x0 x1:Value) (w:World) (_r:Tok R:=tok R):Prop :=
 RUN prog (pan R) (bins .eql 61 (.tmp 7) (.const (.pointer Option.none)) x0 (.pointer Option.none)) w fun v1 w2 =>
 SPL v1
 (b5 R x0 x1 (.bool Bool.true) w2)
 (CALL prog (pan R) gram_isName.id #[x1] w2 fun v3 w4 =>
 RUN prog (pan R) (Op.unary .not v3) w4 fun v5 w6 =>
 b5 R x0 x1 v5 w6)
abbrev q3:XP:=QX (fun ρ w=>b5 R (ρ 0) (ρ 1) (ρ 13) w) (fun ρ w=>R (.returned (.tuple #[(ρ 4),(ρ 5)])) w) []
theorem b4_eq:(b4 R (ρ 0) (ρ 1) w)=cP5 R (preC 0 (fstC p1)) (q3 R) ρ w:=by kernel_rfl
theorem b4_ok (h:b4 R (ρ 0) (ρ 1) w):cP5 R (fstC p1) (q2 R) ρ w:=by
 have e:appC 0 (preC 0 (fstC p1)) (dropC 1 (fstC p1))=(fstC p1):=by kernel_rfl
 rw [←e]
 exact appQ (fun ρ w=>b5 R (ρ 0) (ρ 1) (ρ 13) w) 0 ((b4_eq R ρ w).mp h) (fun ρ w h=>b5_ok R ρ w h)
theorem k2_ok (h:b4 R (ρ 0) (ρ 1) w):cP5 R p1 (q1 R) ρ w:=by
 have e:Code.seq (fstC p1) (sndC p1)=p1:=by kernel_rfl
 rw [←e]
 exact seqQ (fun ρ w=>b3 R (ρ 0) (ρ 1) w) (b4_ok R ρ w h) (fun ρ w h=>b3_ok R ρ w h)
def b1 (x0 x1:Value) (w:World) (_r:Tok R:=tok R):Prop :=
 b4 R x0 x1 w
abbrev q4:XP:=QX (fun ρ w=>b4 R (ρ 0) (ρ 1) w) (fun ρ w=>R (.returned (.tuple #[(ρ 4),(ρ 5)])) w) []
theorem b1_eq:(b1 R (ρ 0) (ρ 1) w)=cP5 R (preC 0 code) (q4 R) ρ w:=by kernel_rfl
theorem b1_ok (h:b1 R (ρ 0) (ρ 1) w):cP5 R code (q1 R) ρ w:=by
 have e:appC 0 (preC 0 code) (dropC 1 code)=code:=by kernel_rfl
 rw [←e]
 exact appQ (fun ρ w=>b4 R (ρ 0) (ρ 1) w) 0 ((b1_eq R ρ w).mp h) (fun ρ w h=>k2_ok R ρ w h)
/-- What is owed for a call. -/
def run (a0 a1:Value) (w:World):Prop:=b1 R a0 a1 w
theorem calls (R:EP) (a0 a1:Value) (w:World) (h:run R a0 a1 w):Calls prog id #[a0,a1] w R :=
 calls_of_tt (f:=id) (fn:=f47) (c:=code) (by kernel_rfl) func47 (by kernel_rfl) (by kernel_rfl) (args:=[a0,a1]) (Nat.le_of_ble_eq_true rfl) rfl (b1_ok R (envOf [a0,a1]) w h)
theorem enters:Enters prog id:=fun args w=>call47 args w
theorem ct {a0 a1:Value} {w:World} {S:VP} (h:∀R:EP,(∀v w,S v w→R (.returned v) w)→run R a0 a1 w):Ct prog id #[a0,a1] w S :=
 Ct.intro enters fun R hR=>calls R a0 a1 w (h R hR)
attribute [irreducible] b3 b5 b4 b1 run
end gram_Builder_Non

/-! ### (*presage/gram.Builder).Rule -/
namespace gram_Builder_Rule
noncomputable def code:Code:=bodyOf f49
noncomputable abbrev p1:Code:=dropC 1 code
noncomputable abbrev p2:Code:=dropC 2 (sndC p1)

def b5 (x3 x8:Value) (w:World) (_r:Tok R:=tok R):Prop :=
 LD prog (Instr.loadAt 61 x3) (World.drew w) fun v1 =>
 LD prog (Instr.loadAt 61 x3) (World.drew w) fun v2 =>
 NILC v2 fun v3 =>
 PUR prog (Instr.fieldAt 103 v3 4) fun v4 =>
 LD prog (Instr.loadAt 101 v4) (World.drew w) fun v5 =>
 LD prog (Instr.loadAt 118 x8) (World.drew w) fun v6 =>
 RUN prog (pan R) (Instr.buildSlice 101 1 #[(0,v6)]) (World.drew w) fun v7 w8 =>
 Sem.run prog (Instr.loadAt 101 v4) w8 = .ok v5 w8∧(Sem.run prog (Instr.loadAt 61 x3) w8 = .ok v2 w8∧(Sem.run prog (Instr.loadAt 61 x3) w8 = .ok v1 w8∧(RUN prog (pan R) (Builtin.append_ #[101,101] 101 #[v5,v7]) w8 fun v9 w10 =>
 Sem.run prog (Instr.loadAt 61 x3) w10 = .ok v1 w10∧(NILC v1 fun v11 =>
 PUR prog (Instr.fieldAt 103 v11 4) fun v12 =>
 RUNU prog (pan R) (Instr.storeAt 101 v12 v9) w10 fun w13 =>
 RUN prog (pan R) (Instr.loadAt 61 x3) w13 fun v14 w15 =>
 NILC v14 fun v16 =>
 RUN prog (pan R) (Instr.fieldAt 103 v16 4) w15 fun v17 w18 =>
 RUN prog (pan R) (Instr.loadAt 101 v17) w18 fun v19 w20 =>
 RUN prog (pan R) (Builtin.len_ #[101] 3 #[v19]) w20 fun v21 w22 =>
 RUN prog (pan R) (bins .sub 3 (.tmp 66) (.const (.int .i64 1)) v21 (.int .i64 1)) w22 fun v23 w24 =>
 R (.returned (.tuple #[v23,(.int .i64 0)])) w24))))
abbrev q1:XP:=QX (fun ρ w=>R (.returned (.tuple #[(ρ 6),(ρ 7)])) w) (fun ρ w=>R (.returned (.tuple #[(ρ 6),(ρ 7)])) w) []
theorem b5_ok (h:b5 R (ρ 3) (ρ 8) w):cP5 R (sndC p2) (q1 R) ρ w:=cast (by kernel_rfl) h
noncomputable abbrev p3:Code:=dropC 1 (fstC p2)
noncomputable abbrev p4:Code:=loopC (blkC p3)
noncomputable abbrev p5:Code:=dropC 3 p4

def b10 (C8:VP) (x36:Value) (w:World) (_r:Tok R:=tok R) (_C8:Tok C8:=tok C8):Prop :=
 RUN prog (pan R) (bins .add 3 (.tmp 36) (.const (.int .i64 1)) x36 (.int .i64 1)) w fun v1 w2 =>
 C8 v1 w2
abbrev q2 (C8:VP):XP:=QX (fun ρ w=>C8 (ρ 36) w) (fun ρ w=>R (.returned (.tuple #[(ρ 6),(ρ 7)])) w) [(0,(fun ρ w=>b5 R (ρ 3) (ρ 8) w))]
theorem b10_ok (R:EP) (C8:VP) (ρ:Env) (w:World) (h:b10 R C8 (ρ 36) w):cP5 R p5 (q2 R C8) ρ w:=cast (by kernel_rfl) h

def b9 (C8:VP) (x3 x8 x34 x35 x36:Value) (w:World) (_r:Tok R:=tok R) (_C8:Tok C8:=tok C8):Prop :=
 RUN prog (pan R) (bins .lss 3 (.tmp 36) (.tmp 35) x36 x35) w fun v1 w2 =>
 SPL v1
 (RUN prog (pan R) (Instr.indexAt 25 x34 x36) w2 fun v3 w4 =>
 RUN prog (pan R) (Instr.loadAt 3 v3) w4 fun v5 w6 =>
 RUN prog (pan R) (bins .gtr 3 (.tmp 40) (.const (.int .i64 0)) v5 (.int .i64 0)) w6 fun v7 w8 =>
 SPL v7
 (RUN prog (pan R) (Instr.loadAt 61 x3) w8 fun v9 w10 =>
 NILC v9 fun v11 =>
 RUN prog (pan R) (Instr.fieldAt 103 v11 2) w10 fun v12 w13 =>
 RUN prog (pan R) (Instr.loadAt 25 v12) w13 fun v14 w15 =>
 RUN prog (pan R) (bins .sub 3 (.tmp 46) (.const (.int .i64 1)) v5 (.int .i64 1)) w15 fun v16 w17 =>
 RUN prog (pan R) (Instr.indexAt 25 v14 v16) w17 fun v18 w19 =>
 RUN prog (pan R) (Instr.loadAt 3 v18) w19 fun v20 w21 =>
 RUN prog (pan R) (Instr.fieldAt 118 x8 2) w21 fun v22 w23 =>
 RUNU prog (pan R) (Instr.storeAt 3 v22 v20) w23 fun w24 =>
 b10 R C8 x36 w24)
 (b10 R C8 x36 w8))
 (b5 R x3 x8 w2)
abbrev q3 (C8:VP):XP:=QX (fun ρ w=>b10 R C8 (ρ 36) w) (fun ρ w=>R (.returned (.tuple #[(ρ 6),(ρ 7)])) w) [(0,(fun ρ w=>b5 R (ρ 3) (ρ 8) w))]
theorem b9_eq (R:EP) (C8:VP) (ρ:Env) (w:World):(b9 R C8 (ρ 3) (ρ 8) (ρ 34) (ρ 35) (ρ 36) w)=cP5 R (preC 2 p4) (q3 R C8) ρ w:=by kernel_rfl
theorem b9_ok (R:EP) (C8:VP) (ρ:Env) (w:World) (h:b9 R C8 (ρ 3) (ρ 8) (ρ 34) (ρ 35) (ρ 36) w):cP5 R p4 (q2 R C8) ρ w:=by
 have e:appC 2 (preC 2 p4) (dropC 3 p4)=p4:=by kernel_rfl
 rw [←e]
 exact appQ (fun ρ w=>b10 R C8 (ρ 36) w) 2 ((b9_eq R C8 ρ w).mp h) (fun ρ w h=>b10_ok R C8 ρ w h)

def l8 (x3 x8 x34 x35 x36:Value) (w:World) (_r:Tok R:=tok R):Prop :=
 ∃(J:VP) (μ:Value→World→Nat),J x36 w∧∀y36 w0,J y36 w0→b9 R (fun z36 w1=>J z36 w1∧μ z36 w1<μ y36 w0) x3 x8 x34 x35 y36 w0
abbrev q4:XP:=QX (fun ρ w=>b5 R (ρ 3) (ρ 8) w) (fun ρ w=>R (.returned (.tuple #[(ρ 6),(ρ 7)])) w) [(0,(fun ρ w=>b5 R (ρ 3) (ρ 8) w))]
theorem l8_ok (h:l8 R (ρ 3) (ρ 8) (ρ 34) (ρ 35) (ρ 36) w):cP5 R (blkC p3) (q4 R) ρ w:=by
 unfold l8 at h
 obtain ⟨J,μ,h0,hr⟩:=h
 have e:Code.loop (loopC (blkC p3))=(blkC p3):=by kernel_rfl
 rw [←e]
 refine loopQ (fun ρ' w'=>J (ρ' 36) w') (fun ρ' w'=>μ (ρ' 36) w') h0 fun ρ' w' hA hI=>?_
 have e3:ρ' 3=ρ 3:=Agree.at hA 3 (by kernel_rfl)
 have e8:ρ' 8=ρ 8:=Agree.at hA 8 (by kernel_rfl)
 have e34:ρ' 34=ρ 34:=Agree.at hA 34 (by kernel_rfl)
 have e35:ρ' 35=ρ 35:=Agree.at hA 35 (by kernel_rfl)
 have h1:=hr (ρ' 36) w' hI
 rw [←e3,←e8,←e34,←e35] at h1
 exact b9_ok R (fun z36 w1=>J z36 w1∧μ z36 w1<μ (ρ' 36) w') ρ' w' h1
theorem l8_intro (R:EP) (x3 x8 x34 x35 x36:Value) (w:World) (J:VP) (μ:Value→World→Nat) (h0:J x36 w)
  (hr:∀y36 w0,J y36 w0→∀C8:VP,(∀z36 w1,J z36 w1→μ z36 w1<μ y36 w0→C8 z36 w1)→b9 R C8 x3 x8 x34 x35 y36 w0):l8 R x3 x8 x34 x35 x36 w:=by
 unfold l8
 exact ⟨J,μ,h0,fun y36 w0 hJ=>hr y36 w0 hJ _ (fun z36 w1 h1 h2=>⟨h1,h2⟩)⟩
abbrev q5:XP:=QX (fun ρ w=>b5 R (ρ 3) (ρ 8) w) (fun ρ w=>R (.returned (.tuple #[(ρ 6),(ρ 7)])) w) []
theorem k7_ok (h:l8 R (ρ 3) (ρ 8) (ρ 34) (ρ 35) (ρ 36) w):cP5 R p3 (q5 R) ρ w:=by
 have e:Code.block 0 (blkC p3)=p3:=by kernel_rfl
 rw [←e]
 exact blockQ (l8_ok R ρ w h)

def b6 (x2 x3 x8:Value) (w:World) (_r:Tok R:=tok R):Prop :=
 RUN prog (pan R) (Builtin.len_ #[25] 3 #[x2]) w fun v1 w2 =>
 l8 R x3 x8 x2 v1 (.int .i64 0) w2
abbrev q6:XP:=QX (fun ρ w=>l8 R (ρ 3) (ρ 8) (ρ 34) (ρ 35) (ρ 36) w) (fun ρ w=>R (.returned (.tuple #[(ρ 6),(ρ 7)])) w) []
theorem b6_eq:(b6 R (ρ 2) (ρ 3) (ρ 8) w)=cP5 R (preC 0 (fstC p2)) (q6 R) ρ w:=by kernel_rfl
theorem b6_ok (h:b6 R (ρ 2) (ρ 3) (ρ 8) w):cP5 R (fstC p2) (q5 R) ρ w:=by
 have e:appC 0 (preC 0 (fstC p2)) (dropC 1 (fstC p2))=(fstC p2):=by kernel_rfl
 rw [←e]
 exact appQ (fun ρ w=>l8 R (ρ 3) (ρ 8) (ρ 34) (ρ 35) (ρ 36) w) 0 ((b6_eq R ρ w).mp h) (fun ρ w h=>k7_ok R ρ w h)
theorem k4_ok (h:b6 R (ρ 2) (ρ 3) (ρ 8) w):cP5 R p2 (q1 R) ρ w:=by
 have e:Code.seq (fstC p2) (sndC p2)=p2:=by kernel_rfl
 rw [←e]
 exact seqQ (fun ρ w=>b5 R (ρ 3) (ρ 8) w) (b6_ok R ρ w h) (fun ρ w h=>b5_ok R ρ w h)

def b3 (x1 x2 x3:Value) (w:World) (_r:Tok R:=tok R):Prop :=
 RUN prog (pan R) (Instr.loadAt 61 x3) w fun v1 w2 =>
 NILC v1 fun v3 =>
 RUN prog (pan R) (Instr.fieldAt 103 v3 4) w2 fun v4 w5 =>
 RUN prog (pan R) (Instr.loadAt 101 v4) w5 fun v6 w7 =>
 RUN prog (pan R) (Builtin.len_ #[101] 3 #[v6]) w7 fun v8 w9 =>
 RUN prog (pan R) (bins .geq 3 (.tmp 28) (.const (.int .i64 96)) v8 (.int .i64 96)) w9 fun v10 w11 =>
 SPL v10
 (R (.returned (.tuple #[(.int .i64 0),(.int .i64 11)])) w11)
 (CALL prog (pan R) slices_Clone_int_int.id #[x2] w11 fun v12 w13 =>
 RUN prog (pan R) (Instr.build 118 #[(0,x1),(1,v12)]) w13 fun v14 w15 =>
 RUN prog (pan R) (Instr.alloc 118 true (.tuple #[])) w15 fun v16 w17 =>
 RUNU prog (pan R) (Instr.storeAt 118 v16 v14) w17 fun w18 =>
 b6 R x2 x3 v16 w18)
abbrev q7:XP:=QX (fun ρ w=>b6 R (ρ 2) (ρ 3) (ρ 8) w) (fun ρ w=>R (.returned (.tuple #[(ρ 6),(ρ 7)])) w) []
theorem b3_eq:(b3 R (ρ 1) (ρ 2) (ρ 3) w)=cP5 R (preC 1 (sndC p1)) (q7 R) ρ w:=by kernel_rfl
theorem b3_ok (h:b3 R (ρ 1) (ρ 2) (ρ 3) w):cP5 R (sndC p1) (q1 R) ρ w:=by
 have e:appC 1 (preC 1 (sndC p1)) (dropC 2 (sndC p1))=(sndC p1):=by kernel_rfl
 rw [←e]
 exact appQ (fun ρ w=>b6 R (ρ 2) (ρ 3) (ρ 8) w) 1 ((b3_eq R ρ w).mp h) (fun ρ w h=>k4_ok R ρ w h)
noncomputable abbrev p6:Code:=dropC 1 (fstC p1)

def b12 (x1 x2 x3 x23:Value) (w:World) (_r:Tok R:=tok R):Prop :=
 SPL x23
 (R (.returned (.tuple #[(.int .i64 0),(.int .i64 1)])) w)
 (b3 R x1 x2 x3 w)
abbrev q8:XP:=QX (fun ρ w=>b3 R (ρ 1) (ρ 2) (ρ 3) w) (fun ρ w=>R (.returned (.tuple #[(ρ 6),(ρ 7)])) w) []
theorem b12_ok (h:b12 R (ρ 1) (ρ 2) (ρ 3) (ρ 23) w):cP5 R p6 (q8 R) ρ w:=cast (by kernel_rfl) h

def b11 (x1 x2 x3:Value) (w:World) (_r:Tok R:=tok R):Prop :=
 RUN prog (pan R) (Instr.loadAt 61 x3) w fun v1 w2 =>
 RUN prog (pan R) (bins .eql 61 (.tmp 11) (.const (.pointer Option.none)) v1 (.pointer Option.none)) w2 fun v3 w4 =>
 SPL v3
 (b12 R x1 x2 x3 (.bool Bool.true) w4)
 (RUN prog (pan R) (Instr.loadAt 61 x3) w4 fun v5 w6 =>
 CALL prog (pan R) gram_Builder_isNonHandle.id #[v5,x1] w6 fun v7 w8 =>
 RUN prog (pan R) (Op.unary .not v7) w8 fun v9 w10 =>
 SPL v9
 (b12 R x1 x2 x3 (.bool Bool.true) w10)
 (RUN prog (pan R) (Instr.makeFunc (.func gram_Builder_Rule_1.id) #[] #[x3]) w10 fun v11 w12 =>
 CALL prog (pan R) slices_ContainsFunc_int_int.id #[x2,v11] w12 fun v13 w14 =>
 b12 R x1 x2 x3 v13 w14))
abbrev q9:XP:=QX (fun ρ w=>b12 R (ρ 1) (ρ 2) (ρ 3) (ρ 23) w) (fun ρ w=>R (.returned (.tuple #[(ρ 6),(ρ 7)])) w) []
theorem b11_eq:(b11 R (ρ 1) (ρ 2) (ρ 3) w)=cP5 R (preC 0 (fstC p1)) (q9 R) ρ w:=by kernel_rfl
theorem b11_ok (h:b11 R (ρ 1) (ρ 2) (ρ 3) w):cP5 R (fstC p1) (q8 R) ρ w:=by
 have e:appC 0 (preC 0 (fstC p1)) (dropC 1 (fstC p1))=(fstC p1):=by kernel_rfl
 rw [←e]
 exact appQ (fun ρ w=>b12 R (ρ 1) (ρ 2) (ρ 3) (ρ 23) w) 0 ((b11_eq R ρ w).mp h) (fun ρ w h=>b12_ok R ρ w h)
theorem k2_ok (h:b11 R (ρ 1) (ρ 2) (ρ 3) w):cP5 R p1 (q1 R) ρ w:=by
 have e:Code.seq (fstC p1) (sndC p1)=p1:=by kernel_rfl
 rw [←e]
 exact seqQ (fun ρ w=>b3 R (ρ 1) (ρ 2) (ρ 3) w) (b11_ok R ρ w h) (fun ρ w h=>b3_ok R ρ w h)

def b1 (x0 x1 x2:Value) (w:World) (_r:Tok R:=tok R):Prop :=
 RUN prog (pan R) (Instr.box 61 x0) w fun v1 w2 =>
 b11 R x1 x2 v1 w2
abbrev q10:XP:=QX (fun ρ w=>b11 R (ρ 1) (ρ 2) (ρ 3) w) (fun ρ w=>R (.returned (.tuple #[(ρ 6),(ρ 7)])) w) []
theorem b1_eq:(b1 R (ρ 0) (ρ 1) (ρ 2) w)=cP5 R (preC 0 code) (q10 R) ρ w:=by kernel_rfl
theorem b1_ok (h:b1 R (ρ 0) (ρ 1) (ρ 2) w):cP5 R code (q1 R) ρ w:=by
 have e:appC 0 (preC 0 code) (dropC 1 code)=code:=by kernel_rfl
 rw [←e]
 exact appQ (fun ρ w=>b11 R (ρ 1) (ρ 2) (ρ 3) w) 0 ((b1_eq R ρ w).mp h) (fun ρ w h=>k2_ok R ρ w h)
/-- What is owed for a call. -/
def run (a0 a1 a2:Value) (w:World):Prop:=b1 R a0 a1 a2 w
theorem calls (R:EP) (a0 a1 a2:Value) (w:World) (h:run R a0 a1 a2 w):Calls prog id #[a0,a1,a2] w R :=
 calls_of_tt (f:=id) (fn:=f49) (c:=code) (by kernel_rfl) func49 (by kernel_rfl) (by kernel_rfl) (args:=[a0,a1,a2]) (Nat.le_of_ble_eq_true rfl) rfl (b1_ok R (envOf [a0,a1,a2]) w h)
theorem enters:Enters prog id:=fun args w=>call49 args w
theorem ct {a0 a1 a2:Value} {w:World} {S:VP} (h:∀R:EP,(∀v w,S v w→R (.returned v) w)→run R a0 a1 a2 w):Ct prog id #[a0,a1,a2] w S :=
 Ct.intro enters fun R hR=>calls R a0 a1 a2 w (h R hR)
attribute [irreducible] b5 b10 b9 l8 b6 b3 b12 b11 b1 run
end gram_Builder_Rule

/-! ### presage/gram.isTerm -/
namespace gram_isTerm
noncomputable def code:Code:=bodyOf f63
def b1 (x0:Value) (w:World) (_r:Tok R:=tok R):Prop :=
 RUN prog (pan R) (bins .neq 9 (.tmp 3) (.const (.string {data:=#[] })) x0 (.string {data:=#[] })) w fun v1 w2 =>
 SPL v1
 (RUN prog (pan R) (Builtin.len_ #[9] 3 #[x0]) w2 fun v3 w4 =>
 RUN prog (pan R) (bins .leq 3 (.tmp 7) (.const (.int .i64 16)) v3 (.int .i64 16)) w4 fun v5 w6 =>
 SPL v5
 (CALL prog (pan R) strings_IndexFunc.id #[x0,(.func (.func gram_isTerm_1.id) #[] #[])] w6 fun v7 w8 =>
 RUN prog (pan R) (bins .lss 3 (.tmp 12) (.const (.int .i64 0)) v7 (.int .i64 0)) w8 fun v9 w10 =>
 R (.returned v9) w10)
 (R (.returned (.bool Bool.false)) w6))
 (R (.returned (.bool Bool.false)) w2)
abbrev q1:XP:=QX (fun ρ w=>R (.returned (ρ 2)) w) (fun ρ w=>R (.returned (ρ 2)) w) []
theorem b1_ok (h:b1 R (ρ 0) w):cP5 R code (q1 R) ρ w:=cast (by kernel_rfl) h
/-- What is owed for a call. -/
def run (a0:Value) (w:World):Prop:=b1 R a0 w
theorem calls (R:EP) (a0:Value) (w:World) (h:run R a0 w):Calls prog id #[a0] w R :=
 calls_of_t (f:=id) (fn:=f63) (c:=code) (by kernel_rfl) func63 (by kernel_rfl) (by kernel_rfl) (args:=[a0]) (Nat.le_of_ble_eq_true rfl) rfl (b1_ok R (envOf [a0]) w h)
theorem enters:Enters prog id:=fun args w=>call63 args w
theorem ct {a0:Value} {w:World} {S:VP} (h:∀R:EP,(∀v w,S v w→R (.returned v) w)→run R a0 w):Ct prog id #[a0] w S :=
 Ct.intro enters fun R hR=>calls R a0 w (h R hR)
attribute [irreducible] b1 run
end gram_isTerm

/-! ### (*presage/gram.names).find -/
namespace gram_names_find
noncomputable def code:Code:=bodyOf f77
def b1 (x0 x1:Value) (w:World) (_r:Tok R:=tok R):Prop :=
 NILC x0 fun v1 =>
 RUN prog (pan R) (Instr.fieldAt 98 v1 1) w fun v2 w3 =>
 RUN prog (pan R) (Instr.loadAt 82 v2) w3 fun v4 w5 =>
 RUN prog (pan R) (Instr.lookup 82 v4 x1 false) w5 fun v6 w7 =>
 R (.returned v6) w7
abbrev q1:XP:=QX (fun ρ w=>R (.returned (ρ 4)) w) (fun ρ w=>R (.returned (ρ 4)) w) []
theorem b1_ok (h:b1 R (ρ 0) (ρ 1) w):cP5 R code (q1 R) ρ w:=cast (by kernel_rfl) h
/-- What is owed for a call. -/
def run (a0 a1:Value) (w:World):Prop:=b1 R a0 a1 w
theorem calls (R:EP) (a0 a1:Value) (w:World) (h:run R a0 a1 w):Calls prog id #[a0,a1] w R :=
 calls_of_t (f:=id) (fn:=f77) (c:=code) (by kernel_rfl) func77 (by kernel_rfl) (by kernel_rfl) (args:=[a0,a1]) (Nat.le_of_ble_eq_true rfl) rfl (b1_ok R (envOf [a0,a1]) w h)
theorem enters:Enters prog id:=fun args w=>call77 args w
theorem ct {a0 a1:Value} {w:World} {S:VP} (h:∀R:EP,(∀v w,S v w→R (.returned v) w)→run R a0 a1 w):Ct prog id #[a0,a1] w S :=
 Ct.intro enters fun R hR=>calls R a0 a1 w (h R hR)
attribute [irreducible] b1 run
end gram_names_find

/-! ### (*presage/gram.names).size -/
namespace gram_names_size
noncomputable def code:Code:=bodyOf f53
def b1 (x0:Value) (w:World) (_r:Tok R:=tok R):Prop :=
 NILC x0 fun v1 =>
 RUN prog (pan R) (Instr.fieldAt 98 v1 0) w fun v2 w3 =>
 RUN prog (pan R) (Instr.loadAt 24 v2) w3 fun v4 w5 =>
 RUN prog (pan R) (Builtin.len_ #[24] 3 #[v4]) w5 fun v6 w7 =>
 R (.returned v6) w7
abbrev q1:XP:=QX (fun ρ w=>R (.returned (ρ 2)) w) (fun ρ w=>R (.returned (ρ 2)) w) []
theorem b1_ok (h:b1 R (ρ 0) w):cP5 R code (q1 R) ρ w:=cast (by kernel_rfl) h
/-- What is owed for a call. -/
def run (a0:Value) (w:World):Prop:=b1 R a0 w
theorem calls (R:EP) (a0:Value) (w:World) (h:run R a0 w):Calls prog id #[a0] w R :=
 calls_of_t (f:=id) (fn:=f53) (c:=code) (by kernel_rfl) func53 (by kernel_rfl) (by kernel_rfl) (args:=[a0]) (Nat.le_of_ble_eq_true rfl) rfl (b1_ok R (envOf [a0]) w h)
theorem enters:Enters prog id:=fun args w=>call53 args w
theorem ct {a0:Value} {w:World} {S:VP} (h:∀R:EP,(∀v w,S v w→R (.returned v) w)→run R a0 w):Ct prog id #[a0] w S :=
 Ct.intro enters fun R hR=>calls R a0 w (h R hR)
attribute [irreducible] b1 run
end gram_names_size

/-! ### (*presage/gram.names).intern -/
namespace gram_names_intern
noncomputable def code:Code:=bodyOf f78
noncomputable abbrev p1:Code:=dropC 2 code
def b2 (x0 x1:Value) (w:World) (_r:Tok R:=tok R):Prop :=
 NILC x0 fun v1 =>
 PUR prog (Instr.fieldAt 98 v1 0) fun v2 =>
 LD prog (Instr.loadAt 24 v2) (World.drew w) fun v3 =>
 CALL prog (pan R) strings_Clone.id #[x1] (World.drew w) fun v4 w5 =>
 Sem.run prog (Instr.loadAt 24 v2) w5 = .ok v3 w5∧(RUN prog (pan R) (Instr.buildSlice 24 1 #[(0,v4)]) w5 fun v6 w7 =>
 Sem.run prog (Instr.loadAt 24 v2) w7 = .ok v3 w7∧(RUN prog (pan R) (Builtin.append_ #[24,24] 24 #[v3,v6]) w7 fun v8 w9 =>
 NILC x0 fun v10 =>
 PUR prog (Instr.fieldAt 98 v10 0) fun v11 =>
 RUNU prog (pan R) (Instr.storeAt 24 v11 v8) w9 fun w12 =>
 NILC x0 fun v13 =>
 PUR prog (Instr.fieldAt 98 v13 1) fun v14 =>
 LD prog (Instr.loadAt 82 v14) (World.drew w12) fun v15 =>
 NILC x0 fun v16 =>
 PUR prog (Instr.fieldAt 98 v16 0) fun v17 =>
 LD prog (Instr.loadAt 24 v17) (World.drew w12) fun v18 =>
 LD prog (Builtin.len_ #[24] 3 #[v18]) (World.drew w12) fun v19 =>
 RUNU prog (pan R) (Instr.mapUpdate 82 v15 x1 v19) (World.drew w12) fun w20 =>
 NILC x0 fun v21 =>
 RUN prog (pan R) (Instr.fieldAt 98 v21 0) w20 fun v22 w23 =>
 RUN prog (pan R) (Instr.loadAt 24 v22) w23 fun v24 w25 =>
 RUN prog (pan R) (Builtin.len_ #[24] 3 #[v24]) w25 fun v26 w27 =>
 R (.returned v26) w27))
abbrev q1:XP:=QX (fun ρ w=>R (.returned (ρ 4)) w) (fun ρ w=>R (.returned (ρ 4)) w) []
theorem b2_ok (h:b2 R (ρ 0) (ρ 1) w):cP5 R p1 (q1 R) ρ w:=cast (by kernel_rfl) h
def b1 (x0 x1:Value) (w:World) (_r:Tok R:=tok R):Prop :=
 NILC x0 fun v1 =>
 RUN prog (pan R) (Instr.fieldAt 98 v1 1) w fun v2 w3 =>
 RUN prog (pan R) (Instr.loadAt 82 v2) w3 fun v4 w5 =>
 RUN prog (pan R) (bins .eql 82 (.tmp 8) (.const (.map Option.none)) v4 (.map Option.none)) w5 fun v6 w7 =>
 SPL v6
 (RUN prog (pan R) (Instr.makeMap 82 none) w7 fun v8 w9 =>
 NILC x0 fun v10 =>
 RUN prog (pan R) (Instr.fieldAt 98 v10 1) w9 fun v11 w12 =>
 RUNU prog (pan R) (Instr.storeAt 82 v11 v8) w12 fun w13 =>
 b2 R x0 x1 w13)
 (b2 R x0 x1 w7)
abbrev q2:XP:=QX (fun ρ w=>b2 R (ρ 0) (ρ 1) w) (fun ρ w=>R (.returned (ρ 4)) w) []
theorem b1_eq:(b1 R (ρ 0) (ρ 1) w)=cP5 R (preC 1 code) (q2 R) ρ w:=by kernel_rfl
theorem b1_ok (h:b1 R (ρ 0) (ρ 1) w):cP5 R code (q1 R) ρ w:=by
 have e:appC 1 (preC 1 code) (dropC 2 code)=code:=by kernel_rfl
 rw [←e]
 exact appQ (fun ρ w=>b2 R (ρ 0) (ρ 1) w) 1 ((b1_eq R ρ w).mp h) (fun ρ w h=>b2_ok R ρ w h)
/-- What is owed for a call. -/
def run (a0 a1:Value) (w:World):Prop:=b1 R a0 a1 w
theorem calls (R:EP) (a0 a1:Value) (w:World) (h:run R a0 a1 w):Calls prog id #[a0,a1] w R :=
 calls_of_t (f:=id) (fn:=f78) (c:=code) (by kernel_rfl) func78 (by kernel_rfl) (by kernel_rfl) (args:=[a0,a1]) (Nat.le_of_ble_eq_true rfl) rfl (b1_ok R (envOf [a0,a1]) w h)
theorem enters:Enters prog id:=fun args w=>call78 args w
theorem ct {a0 a1:Value} {w:World} {S:VP} (h:∀R:EP,(∀v w,S v w→R (.returned v) w)→run R a0 a1 w):Ct prog id #[a0,a1] w S :=
 Ct.intro enters fun R hR=>calls R a0 a1 w (h R hR)
attribute [irreducible] b2 b1 run
end gram_names_intern

/-! ### (*presage/gram.Builder).isNonHandle -/
namespace gram_Builder_isNonHandle
noncomputable def code:Code:=bodyOf f80
def b1 (x0 x1:Value) (w:World) (_r:Tok R:=tok R):Prop :=
 RUN prog (pan R) (bins .lss 3 (.tmp 5) (.const (.int .i64 0)) x1 (.int .i64 0)) w fun v1 w2 =>
 SPL v1
 (NILC x0 fun v3 =>
 RUN prog (pan R) (Instr.fieldAt 103 v3 1) w2 fun v4 w5 =>
 RUN prog (pan R) (Instr.fieldAt 100 v4 0) w5 fun v6 w7 =>
 CALL prog (pan R) gram_names_size.id #[v6] w7 fun v8 w9 =>
 RUN prog (pan R) (Op.unary .neg v8) w9 fun v10 w11 =>
 RUN prog (pan R) (bins .geq 3 (.tmp 8) (.tmp 14) x1 v10) w11 fun v12 w13 =>
 R (.returned v12) w13)
 (R (.returned (.bool Bool.false)) w2)
abbrev q1:XP:=QX (fun ρ w=>R (.returned (ρ 4)) w) (fun ρ w=>R (.returned (ρ 4)) w) []
theorem b1_ok (h:b1 R (ρ 0) (ρ 1) w):cP5 R code (q1 R) ρ w:=cast (by kernel_rfl) h
/-- What is owed for a call. -/
def run (a0 a1:Value) (w:World):Prop:=b1 R a0 a1 w
theorem calls (R:EP) (a0 a1:Value) (w:World) (h:run R a0 a1 w):Calls prog id #[a0,a1] w R :=
 calls_of_t (f:=id) (fn:=f80) (c:=code) (by kernel_rfl) func80 (by kernel_rfl) (by kernel_rfl) (args:=[a0,a1]) (Nat.le_of_ble_eq_true rfl) rfl (b1_ok R (envOf [a0,a1]) w h)
theorem enters:Enters prog id:=fun args w=>call80 args w
theorem ct {a0 a1:Value} {w:World} {S:VP} (h:∀R:EP,(∀v w,S v w→R (.returned v) w)→run R a0 a1 w):Ct prog id #[a0,a1] w S :=
 Ct.intro enters fun R hR=>calls R a0 a1 w (h R hR)
attribute [irreducible] b1 run
end gram_Builder_isNonHandle

/-! ### presage/gram.isName -/
namespace gram_isName
noncomputable def code:Code:=bodyOf f67
noncomputable abbrev p1:Code:=dropC 1 code
def b3 (x0:Value) (w:World) (_r:Tok R:=tok R):Prop :=
 RUN prog (pan R) (bins .neq 9 (.tmp 38) (.const (.string {data:=#[] })) x0 (.string {data:=#[] })) w fun v1 w2 =>
 SPL v1
 (RUN prog (pan R) (Builtin.len_ #[9] 3 #[x0]) w2 fun v3 w4 =>
 RUN prog (pan R) (bins .leq 3 (.tmp 42) (.const (.int .i64 16)) v3 (.int .i64 16)) w4 fun v5 w6 =>
 R (.returned v5) w6)
 (R (.returned (.bool Bool.false)) w2)
abbrev q1:XP:=QX (fun ρ w=>R (.returned (ρ 2)) w) (fun ρ w=>R (.returned (ρ 2)) w) []
theorem b3_ok (h:b3 R (ρ 0) w):cP5 R (sndC p1) (q1 R) ρ w:=cast (by kernel_rfl) h
noncomputable abbrev p2:Code:=dropC 1 (fstC p1)
noncomputable abbrev p3:Code:=loopC (blkC p2)
noncomputable abbrev p4:Code:=dropC 2 p3

def b9 (C6:VP) (x7:Value) (w:World) (_r:Tok R:=tok R) (_C6:Tok C6:=tok C6):Prop :=
 RUN prog (pan R) (bins .add 3 (.tmp 7) (.const (.int .i64 1)) x7 (.int .i64 1)) w fun v1 w2 =>
 C6 v1 w2
abbrev q2 (C6:VP):XP:=QX (fun ρ w=>C6 (ρ 7) w) (fun ρ w=>R (.returned (ρ 2)) w) [(0,(fun ρ w=>b3 R (ρ 0) w))]
theorem b9_ok (R:EP) (C6:VP) (ρ:Env) (w:World) (h:b9 R C6 (ρ 7) w):cP5 R (sndC p4) (q2 R C6) ρ w:=cast (by kernel_rfl) h
noncomputable abbrev p5:Code:=blkC (fstC p4)
noncomputable abbrev p6:Code:=dropC 3 p5

def b12 (C6:VP) (x7 x36:Value) (w:World) (_r:Tok R:=tok R) (_C6:Tok C6:=tok C6):Prop :=
 SPL x36
 (R (.returned (.bool Bool.false)) w)
 (b9 R C6 x7 w)
abbrev q3 (C6:VP):XP:=QX (fun ρ w=>b9 R C6 (ρ 7) w) (fun ρ w=>R (.returned (ρ 2)) w) [(2,(fun ρ w=>b9 R C6 (ρ 7) w)),(0,(fun ρ w=>b3 R (ρ 0) w))]
theorem b12_ok (R:EP) (C6:VP) (ρ:Env) (w:World) (h:b12 R C6 (ρ 7) (ρ 36) w):cP5 R p6 (q3 R C6) ρ w:=cast (by kernel_rfl) h
def b11 (C6:VP) (x0 x7:Value) (w:World) (_r:Tok R:=tok R) (_C6:Tok C6:=tok C6):Prop :=
 RUN prog (pan R) (Instr.index 9 x0 x7) w fun v1 w2 =>
 RUN prog (pan R) (bins .neq 5 (.tmp 13) (.const (.int .u8 95)) v1 (.int .u8 95)) w2 fun v3 w4 =>
 SPL v3
 (RUN prog (pan R) (bins .or 5 (.tmp 16) (.const (.int .u8 32)) v1 (.int .u8 32)) w4 fun v5 w6 =>
 RUN prog (pan R) (bins .lss 5 (.tmp 17) (.const (.int .u8 97)) v5 (.int .u8 97)) w6 fun v7 w8 =>
 SPL v7
 (RUN prog (pan R) (bins .eql 3 (.tmp 26) (.const (.int .i64 0)) x7 (.int .i64 0)) w8 fun v9 w10 =>
 SPL v9
 (b12 R C6 x7 (.bool Bool.true) w10)
 (RUN prog (pan R) (bins .lss 5 (.tmp 29) (.const (.int .u8 48)) v1 (.int .u8 48)) w10 fun v11 w12 =>
 SPL v11
 (b12 R C6 x7 (.bool Bool.true) w12)
 (RUN prog (pan R) (bins .gtr 5 (.tmp 33) (.const (.int .u8 57)) v1 (.int .u8 57)) w12 fun v13 w14 =>
 b12 R C6 x7 v13 w14)))
 (RUN prog (pan R) (bins .or 5 (.tmp 20) (.const (.int .u8 32)) v1 (.int .u8 32)) w8 fun v15 w16 =>
 RUN prog (pan R) (bins .gtr 5 (.tmp 21) (.const (.int .u8 122)) v15 (.int .u8 122)) w16 fun v17 w18 =>
 SPL v17
 (RUN prog (pan R) (bins .eql 3 (.tmp 26) (.const (.int .i64 0)) x7 (.int .i64 0)) w18 fun v19 w20 =>
 SPL v19
 (b12 R C6 x7 (.bool Bool.true) w20)
 (RUN prog (pan R) (bins .lss 5 (.tmp 29) (.const (.int .u8 48)) v1 (.int .u8 48)) w20 fun v21 w22 =>
 SPL v21
 (b12 R C6 x7 (.bool Bool.true) w22)
 (RUN prog (pan R) (bins .gtr 5 (.tmp 33) (.const (.int .u8 57)) v1 (.int .u8 57)) w22 fun v23 w24 =>
 b12 R C6 x7 v23 w24)))
 (b12 R C6 x7 (.bool Bool.false) w18)))
 (b12 R C6 x7 (.bool Bool.false) w4)
abbrev q4 (C6:VP):XP:=QX (fun ρ w=>b12 R C6 (ρ 7) (ρ 36) w) (fun ρ w=>R (.returned (ρ 2)) w) [(2,(fun ρ w=>b9 R C6 (ρ 7) w)),(0,(fun ρ w=>b3 R (ρ 0) w))]
theorem b11_eq (R:EP) (C6:VP) (ρ:Env) (w:World):(b11 R C6 (ρ 0) (ρ 7) w)=cP5 R (preC 2 p5) (q4 R C6) ρ w:=by kernel_rfl
theorem b11_ok (R:EP) (C6:VP) (ρ:Env) (w:World) (h:b11 R C6 (ρ 0) (ρ 7) w):cP5 R p5 (q3 R C6) ρ w:=by
 have e:appC 2 (preC 2 p5) (dropC 3 p5)=p5:=by kernel_rfl
 rw [←e]
 exact appQ (fun ρ w=>b12 R C6 (ρ 7) (ρ 36) w) 2 ((b11_eq R C6 ρ w).mp h) (fun ρ w h=>b12_ok R C6 ρ w h)
abbrev q5 (C6:VP):XP:=QX (fun ρ w=>b9 R C6 (ρ 7) w) (fun ρ w=>R (.returned (ρ 2)) w) [(0,(fun ρ w=>b3 R (ρ 0) w))]
theorem k10_ok (R:EP) (C6:VP) (ρ:Env) (w:World) (h:b11 R C6 (ρ 0) (ρ 7) w):cP5 R (fstC p4) (q5 R C6) ρ w:=by
 have e:Code.block 1 (blkC (fstC p4))=(fstC p4):=by kernel_rfl
 rw [←e]
 exact blockQ (b11_ok R C6 ρ w h)
theorem k8_ok (R:EP) (C6:VP) (ρ:Env) (w:World) (h:b11 R C6 (ρ 0) (ρ 7) w):cP5 R p4 (q2 R C6) ρ w:=by
 have e:Code.seq (fstC p4) (sndC p4)=p4:=by kernel_rfl
 rw [←e]
 exact seqQ (fun ρ w=>b9 R C6 (ρ 7) w) (k10_ok R C6 ρ w h) (fun ρ w h=>b9_ok R C6 ρ w h)
def b7 (C6:VP) (x0 x6 x7:Value) (w:World) (_r:Tok R:=tok R) (_C6:Tok C6:=tok C6):Prop :=
 RUN prog (pan R) (bins .lss 3 (.tmp 7) (.tmp 6) x7 x6) w fun v1 w2 =>
 SPL v1
 (b11 R C6 x0 x7 w2)
 (b3 R x0 w2)
abbrev q6 (C6:VP):XP:=QX (fun ρ w=>b11 R C6 (ρ 0) (ρ 7) w) (fun ρ w=>R (.returned (ρ 2)) w) [(0,(fun ρ w=>b3 R (ρ 0) w))]
theorem b7_eq (R:EP) (C6:VP) (ρ:Env) (w:World):(b7 R C6 (ρ 0) (ρ 6) (ρ 7) w)=cP5 R (preC 1 p3) (q6 R C6) ρ w:=by kernel_rfl
theorem b7_ok (R:EP) (C6:VP) (ρ:Env) (w:World) (h:b7 R C6 (ρ 0) (ρ 6) (ρ 7) w):cP5 R p3 (q2 R C6) ρ w:=by
 have e:appC 1 (preC 1 p3) (dropC 2 p3)=p3:=by kernel_rfl
 rw [←e]
 exact appQ (fun ρ w=>b11 R C6 (ρ 0) (ρ 7) w) 1 ((b7_eq R C6 ρ w).mp h) (fun ρ w h=>k8_ok R C6 ρ w h)
def l6 (x0 x6 x7:Value) (w:World) (_r:Tok R:=tok R):Prop :=
 ∃(J:VP) (μ:Value→World→Nat),J x7 w∧∀y7 w0,J y7 w0→b7 R (fun z7 w1=>J z7 w1∧μ z7 w1<μ y7 w0) x0 x6 y7 w0
abbrev q7:XP:=QX (fun ρ w=>b3 R (ρ 0) w) (fun ρ w=>R (.returned (ρ 2)) w) [(0,(fun ρ w=>b3 R (ρ 0) w))]
theorem l6_ok (h:l6 R (ρ 0) (ρ 6) (ρ 7) w):cP5 R (blkC p2) (q7 R) ρ w:=by
 unfold l6 at h
 obtain ⟨J,μ,h0,hr⟩:=h
 have e:Code.loop (loopC (blkC p2))=(blkC p2):=by kernel_rfl
 rw [←e]
 refine loopQ (fun ρ' w'=>J (ρ' 7) w') (fun ρ' w'=>μ (ρ' 7) w') h0 fun ρ' w' hA hI=>?_
 have e0:ρ' 0=ρ 0:=Agree.at hA 0 (by kernel_rfl)
 have e6:ρ' 6=ρ 6:=Agree.at hA 6 (by kernel_rfl)
 have h1:=hr (ρ' 7) w' hI
 rw [←e0,←e6] at h1
 exact b7_ok R (fun z7 w1=>J z7 w1∧μ z7 w1<μ (ρ' 7) w') ρ' w' h1
theorem l6_intro (R:EP) (x0 x6 x7:Value) (w:World) (J:VP) (μ:Value→World→Nat) (h0:J x7 w)
  (hr:∀y7 w0,J y7 w0→∀C6:VP,(∀z7 w1,J z7 w1→μ z7 w1<μ y7 w0→C6 z7 w1)→b7 R C6 x0 x6 y7 w0):l6 R x0 x6 x7 w:=by
 unfold l6
 exact ⟨J,μ,h0,fun y7 w0 hJ=>hr y7 w0 hJ _ (fun z7 w1 h1 h2=>⟨h1,h2⟩)⟩
abbrev q8:XP:=QX (fun ρ w=>b3 R (ρ 0) w) (fun ρ w=>R (.returned (ρ 2)) w) []
theorem k5_ok (h:l6 R (ρ 0) (ρ 6) (ρ 7) w):cP5 R p2 (q8 R) ρ w:=by
 have e:Code.block 0 (blkC p2)=p2:=by kernel_rfl
 rw [←e]
 exact blockQ (l6_ok R ρ w h)
def b4 (x0:Value) (w:World) (_r:Tok R:=tok R):Prop :=
 RUN prog (pan R) (Builtin.len_ #[9] 3 #[x0]) w fun v1 w2 =>
 l6 R x0 v1 (.int .i64 0) w2
abbrev q9:XP:=QX (fun ρ w=>l6 R (ρ 0) (ρ 6) (ρ 7) w) (fun ρ w=>R (.returned (ρ 2)) w) []
theorem b4_eq:(b4 R (ρ 0) w)=cP5 R (preC 0 (fstC p1)) (q9 R) ρ w:=by kernel_rfl
theorem b4_ok (h:b4 R (ρ 0) w):cP5 R (fstC p1) (q8 R) ρ w:=by
 have e:appC 0 (preC 0 (fstC p1)) (dropC 1 (fstC p1))=(fstC p1):=by kernel_rfl
 rw [←e]
 exact appQ (fun ρ w=>l6 R (ρ 0) (ρ 6) (ρ 7) w) 0 ((b4_eq R ρ w).mp h) (fun ρ w h=>k5_ok R ρ w h)
theorem k2_ok (h:b4 R (ρ 0) w):cP5 R p1 (q1 R) ρ w:=by
 have e:Code.seq (fstC p1) (sndC p1)=p1:=by kernel_rfl
 rw [←e]
 exact seqQ (fun ρ w=>b3 R (ρ 0) w) (b4_ok R ρ w h) (fun ρ w h=>b3_ok R ρ w h)
def b1 (x0:Value) (w:World) (_r:Tok R:=tok R):Prop :=
 b4 R x0 w
abbrev q10:XP:=QX (fun ρ w=>b4 R (ρ 0) w) (fun ρ w=>R (.returned (ρ 2)) w) []
theorem b1_eq:(b1 R (ρ 0) w)=cP5 R (preC 0 code) (q10 R) ρ w:=by kernel_rfl
theorem b1_ok (h:b1 R (ρ 0) w):cP5 R code (q1 R) ρ w:=by
 have e:appC 0 (preC 0 code) (dropC 1 code)=code:=by kernel_rfl
 rw [←e]
 exact appQ (fun ρ w=>b4 R (ρ 0) w) 0 ((b1_eq R ρ w).mp h) (fun ρ w h=>k2_ok R ρ w h)
/-- What is owed for a call. -/
def run (a0:Value) (w:World):Prop:=b1 R a0 w
theorem calls (R:EP) (a0:Value) (w:World) (h:run R a0 w):Calls prog id #[a0] w R :=
 calls_of_t (f:=id) (fn:=f67) (c:=code) (by kernel_rfl) func67 (by kernel_rfl) (by kernel_rfl) (args:=[a0]) (Nat.le_of_ble_eq_true rfl) rfl (b1_ok R (envOf [a0]) w h)
theorem enters:Enters prog id:=fun args w=>call67 args w
theorem ct {a0:Value} {w:World} {S:VP} (h:∀R:EP,(∀v w,S v w→R (.returned v) w)→run R a0 w):Ct prog id #[a0] w S :=
 Ct.intro enters fun R hR=>calls R a0 w (h R hR)
attribute [irreducible] b3 b9 b12 b11 b7 l6 b4 b1 run
end gram_isName

/-! ### (*presage/gram.Builder).Rule$1 -/
namespace gram_Builder_Rule_1
noncomputable def code:Code:=bodyOf f82
def b1 (x0 x1:Value) (w:World) (_r:Tok R:=tok R):Prop :=
 RUN prog (pan R) (Instr.loadAt 61 x1) w fun v1 w2 =>
 CALL prog (pan R) gram_Builder_isTermHandle.id #[v1,x0] w2 fun v3 w4 =>
 RUN prog (pan R) (Op.unary .not v3) w4 fun v5 w6 =>
 SPL v5
 (RUN prog (pan R) (Instr.loadAt 61 x1) w6 fun v7 w8 =>
 CALL prog (pan R) gram_Builder_isNonHandle.id #[v7,x0] w8 fun v9 w10 =>
 RUN prog (pan R) (Op.unary .not v9) w10 fun v11 w12 =>
 R (.returned v11) w12)
 (R (.returned (.bool Bool.false)) w6)
abbrev q1:XP:=QX (fun ρ w=>R (.returned (ρ 3)) w) (fun ρ w=>R (.returned (ρ 3)) w) []
theorem b1_ok (h:b1 R (ρ 0) (ρ 1) w):cP5 R code (q1 R) ρ w:=cast (by kernel_rfl) h
/-- What is owed for a call. -/
def run (a0 a1:Value) (w:World):Prop:=b1 R a0 a1 w
theorem calls (R:EP) (a0 a1:Value) (w:World) (h:run R a0 a1 w):Calls prog id #[a0,a1] w R :=
 calls_of_t (f:=id) (fn:=f82) (c:=code) (by kernel_rfl) func82 (by kernel_rfl) (by kernel_rfl) (args:=[a0,a1]) (Nat.le_of_ble_eq_true rfl) rfl (b1_ok R (envOf [a0,a1]) w h)
theorem enters:Enters prog id:=fun args w=>call82 args w
theorem ct {a0 a1:Value} {w:World} {S:VP} (h:∀R:EP,(∀v w,S v w→R (.returned v) w)→run R a0 a1 w):Ct prog id #[a0,a1] w S :=
 Ct.intro enters fun R hR=>calls R a0 a1 w (h R hR)
attribute [irreducible] b1 run
end gram_Builder_Rule_1

/-! ### (*presage/gram.Builder).isTermHandle -/
namespace gram_Builder_isTermHandle
noncomputable def code:Code:=bodyOf f79
def b1 (x0 x1:Value) (w:World) (_r:Tok R:=tok R):Prop :=
 RUN prog (pan R) (bins .gtr 3 (.tmp 5) (.const (.int .i64 0)) x1 (.int .i64 0)) w fun v1 w2 =>
 SPL v1
 (NILC x0 fun v3 =>
 RUN prog (pan R) (Instr.fieldAt 103 v3 0) w2 fun v4 w5 =>
 CALL prog (pan R) gram_names_size.id #[v4] w5 fun v6 w7 =>
 RUN prog (pan R) (bins .leq 3 (.tmp 8) (.tmp 12) x1 v6) w7 fun v8 w9 =>
 R (.returned v8) w9)
 (R (.returned (.bool Bool.false)) w2)
abbrev q1:XP:=QX (fun ρ w=>R (.returned (ρ 4)) w) (fun ρ w=>R (.returned (ρ 4)) w) []
theorem b1_ok (h:b1 R (ρ 0) (ρ 1) w):cP5 R code (q1 R) ρ w:=cast (by kernel_rfl) h
/-- What is owed for a call. -/
def run (a0 a1:Value) (w:World):Prop:=b1 R a0 a1 w
theorem calls (R:EP) (a0 a1:Value) (w:World) (h:run R a0 a1 w):Calls prog id #[a0,a1] w R :=
 calls_of_t (f:=id) (fn:=f79) (c:=code) (by kernel_rfl) func79 (by kernel_rfl) (by kernel_rfl) (args:=[a0,a1]) (Nat.le_of_ble_eq_true rfl) rfl (b1_ok R (envOf [a0,a1]) w h)
theorem enters:Enters prog id:=fun args w=>call79 args w
theorem ct {a0 a1:Value} {w:World} {S:VP} (h:∀R:EP,(∀v w,S v w→R (.returned v) w)→run R a0 a1 w):Ct prog id #[a0,a1] w S :=
 Ct.intro enters fun R hR=>calls R a0 a1 w (h R hR)
attribute [irreducible] b1 run
end gram_Builder_isTermHandle

/-! ### presage/gram.isTerm$1 -/
namespace gram_isTerm_1
noncomputable def code:Code:=bodyOf f91
def b1 (x0:Value) (w:World) (_r:Tok R:=tok R):Prop :=
 RUN prog (pan R) (bins .lss 21 (.tmp 3) (.const (.int .i32 32)) x0 (.int .i32 32)) w fun v1 w2 =>
 SPL v1
 (R (.returned (.bool Bool.true)) w2)
 (RUN prog (pan R) (bins .gtr 21 (.tmp 6) (.const (.int .i32 126)) x0 (.int .i32 126)) w2 fun v3 w4 =>
 SPL v3
 (R (.returned (.bool Bool.true)) w4)
 (RUN prog (pan R) (bins .eql 21 (.tmp 10) (.const (.int .i32 39)) x0 (.int .i32 39)) w4 fun v5 w6 =>
 R (.returned v5) w6))
abbrev q1:XP:=QX (fun ρ w=>R (.returned (ρ 2)) w) (fun ρ w=>R (.returned (ρ 2)) w) []
theorem b1_ok (h:b1 R (ρ 0) w):cP5 R code (q1 R) ρ w:=cast (by kernel_rfl) h
/-- What is owed for a call. -/
def run (a0:Value) (w:World):Prop:=b1 R a0 w
theorem calls (R:EP) (a0:Value) (w:World) (h:run R a0 w):Calls prog id #[a0] w R :=
 calls_of_t (f:=id) (fn:=f91) (c:=code) (by kernel_rfl) func91 (by kernel_rfl) (by kernel_rfl) (args:=[a0]) (Nat.le_of_ble_eq_true rfl) rfl (b1_ok R (envOf [a0]) w h)
theorem enters:Enters prog id:=fun args w=>call91 args w
theorem ct {a0:Value} {w:World} {S:VP} (h:∀R:EP,(∀v w,S v w→R (.returned v) w)→run R a0 w):Ct prog id #[a0] w S :=
 Ct.intro enters fun R hR=>calls R a0 w (h R hR)
attribute [irreducible] b1 run
end gram_isTerm_1
end Go.Proofs.YtckbgeedlobfaaaDoor
