/- Shallow programs, written by a program of ours (gen.py) off the translation; each is tied to the code by the kernel. -/
import Derived.Test.YtckbgeedlobfaaaDoorY04
set_option linter.unusedVariables false
set_option maxRecDepth 100000
namespace Go.Proofs.YtckbgeedlobfaaaDoor
open Go.Px Tryd
abbrev cP1 (R:EP):=codeP prog (pan R)
variable (R:EP) (ρ:Env) (w:World)

/-! ### presage/spec.Bad -/
namespace spec_Bad
noncomputable def code:Code:=bodyOf f15
def b1_1 (v1:Value) (w2:World) (_r:Tok R:=tok R):Prop :=
 RUN prog (pan R) (Instr.extract v1 0) w2 fun v3 w4 =>
 RUN prog (pan R) (Instr.extract v1 1) w4 fun v5 w6 =>
 R (.returned v5) w6
def b1 (x0:Value) (w:World) (_r:Tok R:=tok R):Prop :=
 CALL prog (pan R) spec_read.id #[x0] w fun v1 w2 =>
 b1_1 R v1 w2
abbrev q1:XP:=QX (fun ρ w=>R (.returned (ρ 2)) w) (fun ρ w=>R (.returned (ρ 2)) w) []
theorem b1_ok (h:b1 R (ρ 0) w):cP1 R code (q1 R) ρ w:=cast (by kernel_rfl) h
/-- What is owed for a call. -/
def run (a0:Value) (w:World):Prop:=b1 R a0 w
theorem calls (R:EP) (a0:Value) (w:World) (h:run R a0 w):Calls prog id #[a0] w R :=
 calls_of_t (f:=id) (fn:=f15) (c:=code) (by kernel_rfl) func15 (by kernel_rfl) (by kernel_rfl) (args:=[a0]) (Nat.le_of_ble_eq_true rfl) rfl (b1_ok R (envOf [a0]) w h)
theorem enters:Enters prog id:=fun args w=>call15 args w
theorem ct {a0:Value} {w:World} {S:VP} (h:∀R:EP,(∀v w,S v w→R (.returned v) w)→run R a0 w):Ct prog id #[a0] w S :=
 Ct.intro enters fun R hR=>calls R a0 w (h R hR)
attribute [irreducible] b1_1 b1 run
attribute [go_sem] b1_1 b1 run
end spec_Bad

/-! ### (*presage/spec.maker).all -/
namespace spec_maker_all
noncomputable def code:Code:=bodyOf f28
noncomputable abbrev p1:Code:=dropC 1 code
noncomputable abbrev p2:Code:=sndC (sndC p1)
def b4_1 (v14 v15 v25:Value) (w26:World) (_r:Tok R:=tok R):Prop :=
 Sem.run prog (Instr.loadAt 61 v14) w26 = .ok v15 w26∧(PUR prog (Instr.extract v25 0) fun v27 =>
 PUR prog (Instr.extract v25 1) fun v28 =>
 CALL prog (pan R) spec_enough.id #[v27,v28] w26 fun v29 w30 =>
 Sem.run prog (Instr.loadAt 61 v14) w30 = .ok v15 w30∧(CALL prog (pan R) gram_Builder_Start.id #[v15,v29] w30 fun v31 w32 =>
 R (.returned (.tuple #[])) w32))
def b4_2 (x0:Value) (w12:World) (_r:Tok R:=tok R):Prop :=
 NILC x0 fun v13 =>
 PUR prog (Instr.fieldAt 64 v13 0) fun v14 =>
 LD prog (Instr.loadAt 61 v14) (World.drew w12) fun v15 =>
 NILC x0 fun v16 =>
 PUR prog (Instr.fieldAt 64 v16 0) fun v17 =>
 LD prog (Instr.loadAt 61 v17) (World.drew w12) fun v18 =>
 NILC x0 fun v19 =>
 PUR prog (Instr.fieldAt 64 v19 1) fun v20 =>
 LD prog (Instr.loadAt 56 v20) (World.drew w12) fun v21 =>
 NILC v21 fun v22 =>
 PUR prog (Instr.fieldAt 87 v22 5) fun v23 =>
 LD prog (Instr.loadAt 9 v23) (World.drew w12) fun v24 =>
 CALL prog (pan R) gram_Builder_Non.id #[v18,v24] (World.drew w12) fun v25 w26 =>
 b4_1 R v14 v15 v25 w26

def b4 (x0:Value) (w:World) (_r:Tok R:=tok R):Prop :=
 NILC x0 fun v1 =>
 RUN prog (pan R) (Instr.fieldAt 64 v1 1) w fun v2 w3 =>
 RUN prog (pan R) (Instr.loadAt 56 v2) w3 fun v4 w5 =>
 NILC v4 fun v6 =>
 RUN prog (pan R) (Instr.fieldAt 87 v6 5) w5 fun v7 w8 =>
 RUN prog (pan R) (Instr.loadAt 9 v7) w8 fun v9 w10 =>
 RUN prog (pan R) (bins .neq 9 (.tmp 160) (.const (.string {data:=#[] })) v9 (.string {data:=#[] })) w10 fun v11 w12 =>
 SPL v11
 (b4_2 R x0 w12)
 (R (.returned (.tuple #[])) w12)
abbrev q1:XP:=QX (fun ρ w=>R (.returned (.tuple #[])) w) (fun ρ w=>R (.returned (.tuple #[])) w) []
theorem b4_ok (h:b4 R (ρ 0) w):cP1 R p2 (q1 R) ρ w:=cast (by kernel_rfl) h
noncomputable abbrev p3:Code:=fstC (sndC p1)
noncomputable abbrev p4:Code:=dropC 1 p3
noncomputable abbrev p5:Code:=loopC (blkC p4)
noncomputable abbrev p6:Code:=dropC 2 p5

def b10 (C7:VP) (x84:Value) (w:World) (_r:Tok R:=tok R) (_C7:Tok C7:=tok C7):Prop :=
 RUN prog (pan R) (bins .add 3 (.tmp 84) (.const (.int .i64 1)) x84 (.int .i64 1)) w fun v1 w2 =>
 C7 v1 w2
abbrev q2 (C7:VP):XP:=QX (fun ρ w=>C7 (ρ 84) w) (fun ρ w=>R (.returned (.tuple #[])) w) [(12,(fun ρ w=>b4 R (ρ 0) w))]
theorem b10_ok (R:EP) (C7:VP) (ρ:Env) (w:World) (h:b10 R C7 (ρ 84) w):cP1 R (sndC p6) (q2 R C7) ρ w:=cast (by kernel_rfl) h
noncomputable abbrev p7:Code:=blkC (fstC p6)
noncomputable abbrev p8:Code:=dropC 3 p7
noncomputable abbrev p9:Code:=dropC 2 (sndC p8)
def b15_1 (C7:VP) (x0 x17 x84:Value) (w4:World) (_r:Tok R:=tok R) (_C7:Tok C7:=tok C7):Prop :=
 NILC x0 fun v5 =>
 RUN prog (pan R) (Instr.fieldAt 64 v5 0) w4 fun v6 w7 =>
 RUN prog (pan R) (Instr.loadAt 61 v6) w7 fun v8 w9 =>
 RUN prog (pan R) (Instr.buildSlice 25 1 #[(0,x17)]) w9 fun v10 w11 =>
 CALL prog (pan R) gram_Builder_Grade.id #[v8,(.int .i64 0),v10] w11 fun v12 w13 =>
 b10 R C7 x84 w13

def b15 (C7:VP) (x0 x12 x17 x84:Value) (w:World) (_r:Tok R:=tok R) (_C7:Tok C7:=tok C7):Prop :=
 RUN prog (pan R) (Instr.fieldAt 112 x12 3) w fun v1 w2 =>
 RUN prog (pan R) (Instr.loadAt 4 v1) w2 fun v3 w4 =>
 SPL v3
 (b15_1 R C7 x0 x17 x84 w4)
 (b10 R C7 x84 w4)
abbrev q3 (C7:VP):XP:=QX (fun ρ w=>b10 R C7 (ρ 84) w) (fun ρ w=>R (.returned (.tuple #[])) w) [(14,(fun ρ w=>b10 R C7 (ρ 84) w)),(12,(fun ρ w=>b4 R (ρ 0) w))]
theorem b15_ok (R:EP) (C7:VP) (ρ:Env) (w:World) (h:b15 R C7 (ρ 0) (ρ 12) (ρ 17) (ρ 84) w):cP1 R p9 (q3 R C7) ρ w:=cast (by kernel_rfl) h
def b14_1 (C7:VP) (x0 x2 x12 x84 v12 v21 v22 v32:Value) (w33:World) (_r:Tok R:=tok R) (_C7:Tok C7:=tok C7):Prop :=
 Sem.run prog (Instr.loadAt 61 v21) w33 = .ok v22 w33∧(LD prog (Instr.lookup 104 x2 v32 false) w33 fun v34 =>
 RUN prog (pan R) (Instr.buildSlice 25 1 #[(0,v12)]) w33 fun v35 w36 =>
 Sem.run prog (Instr.lookup 104 x2 v32 false) w36 = .ok v34 w36∧(Sem.run prog (Instr.loadAt 61 v21) w36 = .ok v22 w36∧(CALL prog (pan R) gram_Builder_Grade.id #[v22,v34,v35] w36 fun v37 w38 =>
 b15 R C7 x0 x12 v12 x84 w38)))
def b14_2 (C7:VP) (x0 x2 x12 x84 v12 v21 v22 v39 v41:Value) (w42:World) (_r:Tok R:=tok R) (_C7:Tok C7:=tok C7):Prop :=
 Sem.run prog (Instr.loadAt 61 v21) w42 = .ok v22 w42∧(LD prog (Instr.lookup 104 x2 v41 false) w42 fun v43 =>
 CALL prog (pan R) gram_Builder_Grade.id #[v22,v43,v39] w42 fun v44 w45 =>
 b15 R C7 x0 x12 v12 x84 w45)
def b14_3 (C7:VP) (x0 x2 x12 x84 v12 v21 v22 v28:Value) (w29:World) (_r:Tok R:=tok R) (_C7:Tok C7:=tok C7):Prop :=
 Sem.run prog (Instr.loadAt 61 v21) w29 = .ok v22 w29∧(PUR prog (Instr.extract v28 0) fun v30 =>
 PUR prog (Instr.extract v28 1) fun v31 =>
 (CALL prog (pan R) spec_enough.id #[v30,v31] w29 fun v32 w33 =>
 b14_1 R C7 x0 x2 x12 x84 v12 v21 v22 v32 w33) ∧
 (RUN prog (pan R) (Instr.buildSlice 25 1 #[(0,v12)]) w29 fun v39 w40 =>
 Sem.run prog (Instr.loadAt 61 v21) w40 = .ok v22 w40∧(CALL prog (pan R) spec_enough.id #[v30,v31] w40 fun v41 w42 =>
 b14_2 R C7 x0 x2 x12 x84 v12 v21 v22 v39 v41 w42)))
def b14_4 (C7:VP) (x0 x2 x12 x84 v12 v21 v22 v46 v52:Value) (w53:World) (_r:Tok R:=tok R) (_C7:Tok C7:=tok C7):Prop :=
 Sem.run prog (Instr.loadAt 61 v21) w53 = .ok v22 w53∧(LD prog (Instr.lookup 104 x2 v52 false) w53 fun v54 =>
 CALL prog (pan R) gram_Builder_Grade.id #[v22,v54,v46] w53 fun v55 w56 =>
 b15 R C7 x0 x12 v12 x84 w56)
def b14_5 (C7:VP) (x0 x2 x12 x84 v12 v21 v22 v46 v48:Value) (w49:World) (_r:Tok R:=tok R) (_C7:Tok C7:=tok C7):Prop :=
 Sem.run prog (Instr.loadAt 61 v21) w49 = .ok v22 w49∧(PUR prog (Instr.extract v48 0) fun v50 =>
 PUR prog (Instr.extract v48 1) fun v51 =>
 CALL prog (pan R) spec_enough.id #[v50,v51] w49 fun v52 w53 =>
 b14_4 R C7 x0 x2 x12 x84 v12 v21 v22 v46 v52 w53)
def b14_6 (C7:VP) (x0 x2 x12 x84 v12:Value) (w19:World) (_r:Tok R:=tok R) (_C7:Tok C7:=tok C7):Prop :=
 NILC x0 fun v20 =>
 PUR prog (Instr.fieldAt 64 v20 0) fun v21 =>
 LD prog (Instr.loadAt 61 v21) (World.drew w19) fun v22 =>
 NILC x0 fun v23 =>
 PUR prog (Instr.fieldAt 64 v23 0) fun v24 =>
 LD prog (Instr.loadAt 61 v24) (World.drew w19) fun v25 =>
 PUR prog (Instr.fieldAt 112 x12 2) fun v26 =>
 LD prog (Instr.loadAt 9 v26) (World.drew w19) fun v27 =>
 (CALL prog (pan R) gram_Builder_Term.id #[v25,v27] (World.drew w19) fun v28 w29 =>
 b14_3 R C7 x0 x2 x12 x84 v12 v21 v22 v28 w29) ∧
 (RUN prog (pan R) (Instr.buildSlice 25 1 #[(0,v12)]) (World.drew w19) fun v46 w47 =>
 Sem.run prog (Instr.loadAt 9 v26) w47 = .ok v27 w47∧(Sem.run prog (Instr.loadAt 61 v24) w47 = .ok v25 w47∧(Sem.run prog (Instr.loadAt 61 v21) w47 = .ok v22 w47∧(CALL prog (pan R) gram_Builder_Term.id #[v25,v27] w47 fun v48 w49 =>
 b14_5 R C7 x0 x2 x12 x84 v12 v21 v22 v46 v48 w49))))
def b14_7 (C7:VP) (x0 x2 x12 x84 v12:Value) (w13:World) (_r:Tok R:=tok R) (_C7:Tok C7:=tok C7):Prop :=
 RUN prog (pan R) (Instr.fieldAt 112 x12 2) w13 fun v14 w15 =>
 RUN prog (pan R) (Instr.loadAt 9 v14) w15 fun v16 w17 =>
 RUN prog (pan R) (bins .neq 9 (.tmp 123) (.const (.string {data:=#[] })) v16 (.string {data:=#[] })) w17 fun v18 w19 =>
 SPL v18
 (b14_6 R C7 x0 x2 x12 x84 v12 w19)
 (b15 R C7 x0 x12 v12 x84 w19)
def b14_8 (C7:VP) (x0 x2 x12 x84 v6:Value) (w7:World) (_r:Tok R:=tok R) (_C7:Tok C7:=tok C7):Prop :=
 RUN prog (pan R) (Instr.extract v6 0) w7 fun v8 w9 =>
 RUN prog (pan R) (Instr.extract v6 1) w9 fun v10 w11 =>
 CALL prog (pan R) spec_enough.id #[v8,v10] w11 fun v12 w13 =>
 b14_7 R C7 x0 x2 x12 x84 v12 w13

def b14 (C7:VP) (x0 x2 x12 x13 x14 x84:Value) (w:World) (_r:Tok R:=tok R) (_C7:Tok C7:=tok C7):Prop :=
 NILC x0 fun v1 =>
 RUN prog (pan R) (Instr.fieldAt 64 v1 0) w fun v2 w3 =>
 RUN prog (pan R) (Instr.loadAt 61 v2) w3 fun v4 w5 =>
 CALL prog (pan R) gram_Builder_Rule.id #[v4,x13,x14] w5 fun v6 w7 =>
 b14_8 R C7 x0 x2 x12 x84 v6 w7
abbrev q4 (C7:VP):XP:=QX (fun ρ w=>b15 R C7 (ρ 0) (ρ 12) (ρ 17) (ρ 84) w) (fun ρ w=>R (.returned (.tuple #[])) w) [(14,(fun ρ w=>b10 R C7 (ρ 84) w)),(12,(fun ρ w=>b4 R (ρ 0) w))]
theorem b14_eq (R:EP) (C7:VP) (ρ:Env) (w:World):(b14 R C7 (ρ 0) (ρ 2) (ρ 12) (ρ 13) (ρ 14) (ρ 84) w)=cP1 R (preC 1 (sndC p8)) (q4 R C7) ρ w:=by kernel_rfl
theorem b14_ok (R:EP) (C7:VP) (ρ:Env) (w:World) (h:b14 R C7 (ρ 0) (ρ 2) (ρ 12) (ρ 13) (ρ 14) (ρ 84) w):cP1 R (sndC p8) (q3 R C7) ρ w:=by
 have e:appC 1 (preC 1 (sndC p8)) (dropC 2 (sndC p8))=(sndC p8):=by kernel_rfl
 rw [←e]
 exact appQ (fun ρ w=>b15 R C7 (ρ 0) (ρ 12) (ρ 17) (ρ 84) w) 1 ((b14_eq R C7 ρ w).mp h) (fun ρ w h=>b15_ok R C7 ρ w h)
noncomputable abbrev p10:Code:=dropC 1 (fstC p8)
noncomputable abbrev p11:Code:=loopC (blkC p10)
def b19_1 (C18:Value→VP) (x14 x101 v12:Value) (w13:World) (_r:Tok R:=tok R) (_C18:Tok C18:=tok C18):Prop :=
 RUN prog (pan R) (Instr.buildSlice 25 1 #[(0,v12)]) w13 fun v14 w15 =>
 RUN prog (pan R) (Builtin.append_ #[25,25] 25 #[x14,v14]) w15 fun v16 w17 =>
 RUN prog (pan R) (bins .add 3 (.tmp 101) (.const (.int .i64 1)) x101 (.int .i64 1)) w17 fun v18 w19 =>
 C18 v16 v18 w19
def b19_2 (C18:Value→VP) (x0 x14 x99 x101:Value) (w2:World) (_r:Tok R:=tok R) (_C18:Tok C18:=tok C18):Prop :=
 RUN prog (pan R) (Instr.indexAt 83 x99 x101) w2 fun v3 w4 =>
 RUN prog (pan R) (Instr.loadAt 91 v3) w4 fun v5 w6 =>
 RUN prog (pan R) (Instr.alloc 91 true (.tuple #[])) w6 fun v7 w8 =>
 RUNU prog (pan R) (Instr.storeAt 91 v7 v5) w8 fun w9 =>
 RUN prog (pan R) (Instr.loadAt 91 v7) w9 fun v10 w11 =>
 CALL prog (pan R) spec_maker_symbol.id #[x0,v10] w11 fun v12 w13 =>
 b19_1 R C18 x14 x101 v12 w13

def b19 (C7:VP) (C18:Value→VP) (x0 x2 x12 x13 x14 x84 x99 x100 x101:Value) (w:World) (_r:Tok R:=tok R) (_C7:Tok C7:=tok C7) (_C18:Tok C18:=tok C18):Prop :=
 RUN prog (pan R) (bins .lss 3 (.tmp 101) (.tmp 100) x101 x100) w fun v1 w2 =>
 SPL v1
 (b19_2 R C18 x0 x14 x99 x101 w2)
 (b14 R C7 x0 x2 x12 x13 x14 x84 w2)
abbrev q5 (C7:VP) (C18:Value→VP):XP:=QX (fun ρ w=>C18 (ρ 14) (ρ 101) w) (fun ρ w=>R (.returned (.tuple #[])) w) [(16,(fun ρ w=>b14 R C7 (ρ 0) (ρ 2) (ρ 12) (ρ 13) (ρ 14) (ρ 84) w)),(14,(fun ρ w=>b10 R C7 (ρ 84) w)),(12,(fun ρ w=>b4 R (ρ 0) w))]
theorem b19_ok (R:EP) (C7:VP) (C18:Value→VP) (ρ:Env) (w:World) (h:b19 R C7 C18 (ρ 0) (ρ 2) (ρ 12) (ρ 13) (ρ 14) (ρ 84) (ρ 99) (ρ 100) (ρ 101) w):cP1 R p11 (q5 R C7 C18) ρ w:=cast (by kernel_rfl) h

def l18 (C7:VP) (x0 x2 x12 x13 x14 x84 x99 x100 x101:Value) (w:World) (_r:Tok R:=tok R) (_C7:Tok C7:=tok C7):Prop :=
 ∃(J:Value→VP) (μ:Value→Value→World→Nat),J x14 x101 w∧∀y14 y101 w0,J y14 y101 w0→b19 R C7 (fun z14 z101 w1=>J z14 z101 w1∧μ z14 z101 w1<μ y14 y101 w0) x0 x2 x12 x13 y14 x84 x99 x100 y101 w0
abbrev q6 (C7:VP):XP:=QX (fun ρ w=>b14 R C7 (ρ 0) (ρ 2) (ρ 12) (ρ 13) (ρ 14) (ρ 84) w) (fun ρ w=>R (.returned (.tuple #[])) w) [(16,(fun ρ w=>b14 R C7 (ρ 0) (ρ 2) (ρ 12) (ρ 13) (ρ 14) (ρ 84) w)),(14,(fun ρ w=>b10 R C7 (ρ 84) w)),(12,(fun ρ w=>b4 R (ρ 0) w))]
theorem l18_ok (R:EP) (C7:VP) (ρ:Env) (w:World) (h:l18 R C7 (ρ 0) (ρ 2) (ρ 12) (ρ 13) (ρ 14) (ρ 84) (ρ 99) (ρ 100) (ρ 101) w):cP1 R (blkC p10) (q6 R C7) ρ w:=by
 unfold l18 at h
 obtain ⟨J,μ,h0,hr⟩:=h
 have e:Code.loop (loopC (blkC p10))=(blkC p10):=by kernel_rfl
 rw [←e]
 refine loopQ (fun ρ' w'=>J (ρ' 14) (ρ' 101) w') (fun ρ' w'=>μ (ρ' 14) (ρ' 101) w') h0 fun ρ' w' hA hI=>?_
 have e0:ρ' 0=ρ 0:=Agree.at hA 0 (by kernel_rfl)
 have e2:ρ' 2=ρ 2:=Agree.at hA 2 (by kernel_rfl)
 have e12:ρ' 12=ρ 12:=Agree.at hA 12 (by kernel_rfl)
 have e13:ρ' 13=ρ 13:=Agree.at hA 13 (by kernel_rfl)
 have e84:ρ' 84=ρ 84:=Agree.at hA 84 (by kernel_rfl)
 have e99:ρ' 99=ρ 99:=Agree.at hA 99 (by kernel_rfl)
 have e100:ρ' 100=ρ 100:=Agree.at hA 100 (by kernel_rfl)
 have h1:=hr (ρ' 14) (ρ' 101) w' hI
 rw [←e0,←e2,←e12,←e13,←e84,←e99,←e100] at h1
 exact b19_ok R C7 (fun z14 z101 w1=>J z14 z101 w1∧μ z14 z101 w1<μ (ρ' 14) (ρ' 101) w') ρ' w' h1
theorem l18_intro (R:EP) (C7:VP) (x0 x2 x12 x13 x14 x84 x99 x100 x101:Value) (w:World) (J:Value→VP) (μ:Value→Value→World→Nat) (h0:J x14 x101 w)
  (hr:∀y14 y101 w0,J y14 y101 w0→∀C18:Value→VP,(∀z14 z101 w1,J z14 z101 w1→μ z14 z101 w1<μ y14 y101 w0→C18 z14 z101 w1)→b19 R C7 C18 x0 x2 x12 x13 y14 x84 x99 x100 y101 w0):l18 R C7 x0 x2 x12 x13 x14 x84 x99 x100 x101 w:=by
 unfold l18
 exact ⟨J,μ,h0,fun y14 y101 w0 hJ=>hr y14 y101 w0 hJ _ (fun z14 z101 w1 h1 h2=>⟨h1,h2⟩)⟩
abbrev q7 (C7:VP):XP:=QX (fun ρ w=>b14 R C7 (ρ 0) (ρ 2) (ρ 12) (ρ 13) (ρ 14) (ρ 84) w) (fun ρ w=>R (.returned (.tuple #[])) w) [(14,(fun ρ w=>b10 R C7 (ρ 84) w)),(12,(fun ρ w=>b4 R (ρ 0) w))]
theorem k17_ok (R:EP) (C7:VP) (ρ:Env) (w:World) (h:l18 R C7 (ρ 0) (ρ 2) (ρ 12) (ρ 13) (ρ 14) (ρ 84) (ρ 99) (ρ 100) (ρ 101) w):cP1 R p10 (q7 R C7) ρ w:=by
 have e:Code.block 8 (blkC p10)=p10:=by kernel_rfl
 rw [←e]
 exact blockQ (l18_ok R C7 ρ w h)

def b16 (C7:VP) (x0 x2 x12 x13 x14 x84:Value) (w:World) (_r:Tok R:=tok R) (_C7:Tok C7:=tok C7):Prop :=
 RUN prog (pan R) (Instr.fieldAt 112 x12 1) w fun v1 w2 =>
 RUN prog (pan R) (Instr.loadAt 83 v1) w2 fun v3 w4 =>
 RUN prog (pan R) (Builtin.len_ #[83] 3 #[v3]) w4 fun v5 w6 =>
 l18 R C7 x0 x2 x12 x13 x14 x84 v3 v5 (.int .i64 0) w6
abbrev q8 (C7:VP):XP:=QX (fun ρ w=>l18 R C7 (ρ 0) (ρ 2) (ρ 12) (ρ 13) (ρ 14) (ρ 84) (ρ 99) (ρ 100) (ρ 101) w) (fun ρ w=>R (.returned (.tuple #[])) w) [(14,(fun ρ w=>b10 R C7 (ρ 84) w)),(12,(fun ρ w=>b4 R (ρ 0) w))]
theorem b16_eq (R:EP) (C7:VP) (ρ:Env) (w:World):(b16 R C7 (ρ 0) (ρ 2) (ρ 12) (ρ 13) (ρ 14) (ρ 84) w)=cP1 R (preC 0 (fstC p8)) (q8 R C7) ρ w:=by kernel_rfl
theorem b16_ok (R:EP) (C7:VP) (ρ:Env) (w:World) (h:b16 R C7 (ρ 0) (ρ 2) (ρ 12) (ρ 13) (ρ 14) (ρ 84) w):cP1 R (fstC p8) (q7 R C7) ρ w:=by
 have e:appC 0 (preC 0 (fstC p8)) (dropC 1 (fstC p8))=(fstC p8):=by kernel_rfl
 rw [←e]
 exact appQ (fun ρ w=>l18 R C7 (ρ 0) (ρ 2) (ρ 12) (ρ 13) (ρ 14) (ρ 84) (ρ 99) (ρ 100) (ρ 101) w) 0 ((b16_eq R C7 ρ w).mp h) (fun ρ w h=>k17_ok R C7 ρ w h)
theorem k13_ok (R:EP) (C7:VP) (ρ:Env) (w:World) (h:b16 R C7 (ρ 0) (ρ 2) (ρ 12) (ρ 13) (ρ 14) (ρ 84) w):cP1 R p8 (q3 R C7) ρ w:=by
 have e:Code.seq (fstC p8) (sndC p8)=p8:=by kernel_rfl
 rw [←e]
 exact seqQ (fun ρ w=>b14 R C7 (ρ 0) (ρ 2) (ρ 12) (ρ 13) (ρ 14) (ρ 84) w) (b16_ok R C7 ρ w h) (fun ρ w h=>b14_ok R C7 ρ w h)
def b12_1 (C7:VP) (x0 x2 x84 v5 v13:Value) (w14:World) (_r:Tok R:=tok R) (_C7:Tok C7:=tok C7):Prop :=
 PUR prog (Instr.extract v13 0) fun v15 =>
 PUR prog (Instr.extract v13 1) fun v16 =>
 CALL prog (pan R) spec_enough.id #[v15,v16] w14 fun v17 w18 =>
 b16 R C7 x0 x2 v5 v17 (.slice Option.none 0 0) x84 w18

def b12 (C7:VP) (x0 x2 x82 x84:Value) (w:World) (_r:Tok R:=tok R) (_C7:Tok C7:=tok C7):Prop :=
 RUN prog (pan R) (Instr.indexAt 85 x82 x84) w fun v1 w2 =>
 RUN prog (pan R) (Instr.loadAt 112 v1) w2 fun v3 w4 =>
 RUN prog (pan R) (Instr.alloc 112 true (.tuple #[])) w4 fun v5 w6 =>
 RUNU prog (pan R) (Instr.storeAt 112 v5 v3) w6 fun w7 =>
 NILC x0 fun v8 =>
 PUR prog (Instr.fieldAt 64 v8 0) fun v9 =>
 LD prog (Instr.loadAt 61 v9) (World.drew w7) fun v10 =>
 PUR prog (Instr.fieldAt 112 v5 0) fun v11 =>
 LD prog (Instr.loadAt 9 v11) (World.drew w7) fun v12 =>
 CALL prog (pan R) gram_Builder_Non.id #[v10,v12] (World.drew w7) fun v13 w14 =>
 b12_1 R C7 x0 x2 x84 v5 v13 w14
abbrev q9 (C7:VP):XP:=QX (fun ρ w=>b16 R C7 (ρ 0) (ρ 2) (ρ 12) (ρ 13) (ρ 14) (ρ 84) w) (fun ρ w=>R (.returned (.tuple #[])) w) [(14,(fun ρ w=>b10 R C7 (ρ 84) w)),(12,(fun ρ w=>b4 R (ρ 0) w))]
theorem b12_eq (R:EP) (C7:VP) (ρ:Env) (w:World):(b12 R C7 (ρ 0) (ρ 2) (ρ 82) (ρ 84) w)=cP1 R (preC 2 p7) (q9 R C7) ρ w:=by kernel_rfl
theorem b12_ok (R:EP) (C7:VP) (ρ:Env) (w:World) (h:b12 R C7 (ρ 0) (ρ 2) (ρ 82) (ρ 84) w):cP1 R p7 (q3 R C7) ρ w:=by
 have e:appC 2 (preC 2 p7) (dropC 3 p7)=p7:=by kernel_rfl
 rw [←e]
 exact appQ (fun ρ w=>b16 R C7 (ρ 0) (ρ 2) (ρ 12) (ρ 13) (ρ 14) (ρ 84) w) 2 ((b12_eq R C7 ρ w).mp h) (fun ρ w h=>k13_ok R C7 ρ w h)
abbrev q10 (C7:VP):XP:=QX (fun ρ w=>b10 R C7 (ρ 84) w) (fun ρ w=>R (.returned (.tuple #[])) w) [(12,(fun ρ w=>b4 R (ρ 0) w))]
theorem k11_ok (R:EP) (C7:VP) (ρ:Env) (w:World) (h:b12 R C7 (ρ 0) (ρ 2) (ρ 82) (ρ 84) w):cP1 R (fstC p6) (q10 R C7) ρ w:=by
 have e:Code.block 7 (blkC (fstC p6))=(fstC p6):=by kernel_rfl
 rw [←e]
 exact blockQ (b12_ok R C7 ρ w h)
theorem k9_ok (R:EP) (C7:VP) (ρ:Env) (w:World) (h:b12 R C7 (ρ 0) (ρ 2) (ρ 82) (ρ 84) w):cP1 R p6 (q2 R C7) ρ w:=by
 have e:Code.seq (fstC p6) (sndC p6)=p6:=by kernel_rfl
 rw [←e]
 exact seqQ (fun ρ w=>b10 R C7 (ρ 84) w) (k11_ok R C7 ρ w h) (fun ρ w h=>b10_ok R C7 ρ w h)

def b8 (C7:VP) (x0 x2 x82 x83 x84:Value) (w:World) (_r:Tok R:=tok R) (_C7:Tok C7:=tok C7):Prop :=
 RUN prog (pan R) (bins .lss 3 (.tmp 84) (.tmp 83) x84 x83) w fun v1 w2 =>
 SPL v1
 (b12 R C7 x0 x2 x82 x84 w2)
 (b4 R x0 w2)
abbrev q11 (C7:VP):XP:=QX (fun ρ w=>b12 R C7 (ρ 0) (ρ 2) (ρ 82) (ρ 84) w) (fun ρ w=>R (.returned (.tuple #[])) w) [(12,(fun ρ w=>b4 R (ρ 0) w))]
theorem b8_eq (R:EP) (C7:VP) (ρ:Env) (w:World):(b8 R C7 (ρ 0) (ρ 2) (ρ 82) (ρ 83) (ρ 84) w)=cP1 R (preC 1 p5) (q11 R C7) ρ w:=by kernel_rfl
theorem b8_ok (R:EP) (C7:VP) (ρ:Env) (w:World) (h:b8 R C7 (ρ 0) (ρ 2) (ρ 82) (ρ 83) (ρ 84) w):cP1 R p5 (q2 R C7) ρ w:=by
 have e:appC 1 (preC 1 p5) (dropC 2 p5)=p5:=by kernel_rfl
 rw [←e]
 exact appQ (fun ρ w=>b12 R C7 (ρ 0) (ρ 2) (ρ 82) (ρ 84) w) 1 ((b8_eq R C7 ρ w).mp h) (fun ρ w h=>k9_ok R C7 ρ w h)

def l7 (x0 x2 x82 x83 x84:Value) (w:World) (_r:Tok R:=tok R):Prop :=
 ∃(J:VP) (μ:Value→World→Nat),J x84 w∧∀y84 w0,J y84 w0→b8 R (fun z84 w1=>J z84 w1∧μ z84 w1<μ y84 w0) x0 x2 x82 x83 y84 w0
abbrev q12:XP:=QX (fun ρ w=>b4 R (ρ 0) w) (fun ρ w=>R (.returned (.tuple #[])) w) [(12,(fun ρ w=>b4 R (ρ 0) w))]
theorem l7_ok (h:l7 R (ρ 0) (ρ 2) (ρ 82) (ρ 83) (ρ 84) w):cP1 R (blkC p4) (q12 R) ρ w:=by
 unfold l7 at h
 obtain ⟨J,μ,h0,hr⟩:=h
 have e:Code.loop (loopC (blkC p4))=(blkC p4):=by kernel_rfl
 rw [←e]
 refine loopQ (fun ρ' w'=>J (ρ' 84) w') (fun ρ' w'=>μ (ρ' 84) w') h0 fun ρ' w' hA hI=>?_
 have e0:ρ' 0=ρ 0:=Agree.at hA 0 (by kernel_rfl)
 have e2:ρ' 2=ρ 2:=Agree.at hA 2 (by kernel_rfl)
 have e82:ρ' 82=ρ 82:=Agree.at hA 82 (by kernel_rfl)
 have e83:ρ' 83=ρ 83:=Agree.at hA 83 (by kernel_rfl)
 have h1:=hr (ρ' 84) w' hI
 rw [←e0,←e2,←e82,←e83] at h1
 exact b8_ok R (fun z84 w1=>J z84 w1∧μ z84 w1<μ (ρ' 84) w') ρ' w' h1
theorem l7_intro (R:EP) (x0 x2 x82 x83 x84:Value) (w:World) (J:VP) (μ:Value→World→Nat) (h0:J x84 w)
  (hr:∀y84 w0,J y84 w0→∀C7:VP,(∀z84 w1,J z84 w1→μ z84 w1<μ y84 w0→C7 z84 w1)→b8 R C7 x0 x2 x82 x83 y84 w0):l7 R x0 x2 x82 x83 x84 w:=by
 unfold l7
 exact ⟨J,μ,h0,fun y84 w0 hJ=>hr y84 w0 hJ _ (fun z84 w1 h1 h2=>⟨h1,h2⟩)⟩
abbrev q13:XP:=QX (fun ρ w=>b4 R (ρ 0) w) (fun ρ w=>R (.returned (.tuple #[])) w) []
theorem k6_ok (h:l7 R (ρ 0) (ρ 2) (ρ 82) (ρ 83) (ρ 84) w):cP1 R p4 (q13 R) ρ w:=by
 have e:Code.block 6 (blkC p4)=p4:=by kernel_rfl
 rw [←e]
 exact blockQ (l7_ok R ρ w h)

def b5 (x0 x2:Value) (w:World) (_r:Tok R:=tok R):Prop :=
 NILC x0 fun v1 =>
 RUN prog (pan R) (Instr.fieldAt 64 v1 1) w fun v2 w3 =>
 RUN prog (pan R) (Instr.loadAt 56 v2) w3 fun v4 w5 =>
 NILC v4 fun v6 =>
 RUN prog (pan R) (Instr.fieldAt 87 v6 7) w5 fun v7 w8 =>
 RUN prog (pan R) (Instr.loadAt 85 v7) w8 fun v9 w10 =>
 RUN prog (pan R) (Builtin.len_ #[85] 3 #[v9]) w10 fun v11 w12 =>
 l7 R x0 x2 v9 v11 (.int .i64 0) w12
abbrev q14:XP:=QX (fun ρ w=>l7 R (ρ 0) (ρ 2) (ρ 82) (ρ 83) (ρ 84) w) (fun ρ w=>R (.returned (.tuple #[])) w) []
theorem b5_eq:(b5 R (ρ 0) (ρ 2) w)=cP1 R (preC 0 p3) (q14 R) ρ w:=by kernel_rfl
theorem b5_ok (h:b5 R (ρ 0) (ρ 2) w):cP1 R p3 (q13 R) ρ w:=by
 have e:appC 0 (preC 0 p3) (dropC 1 p3)=p3:=by kernel_rfl
 rw [←e]
 exact appQ (fun ρ w=>l7 R (ρ 0) (ρ 2) (ρ 82) (ρ 83) (ρ 84) w) 0 ((b5_eq R ρ w).mp h) (fun ρ w h=>k6_ok R ρ w h)
theorem k3_ok (h:b5 R (ρ 0) (ρ 2) w):cP1 R (sndC p1) (q1 R) ρ w:=by
 have e:Code.seq (fstC (sndC p1)) (sndC (sndC p1))=(sndC p1):=by kernel_rfl
 rw [←e]
 exact seqQ (fun ρ w=>b4 R (ρ 0) w) (b5_ok R ρ w h) (fun ρ w h=>b4_ok R ρ w h)
noncomputable abbrev p12:Code:=dropC 1 (fstC p1)
noncomputable abbrev p13:Code:=loopC (blkC p12)
noncomputable abbrev p14:Code:=dropC 2 p13

def b25 (C22:VP) (x27:Value) (w:World) (_r:Tok R:=tok R) (_C22:Tok C22:=tok C22):Prop :=
 RUN prog (pan R) (bins .add 3 (.tmp 27) (.const (.int .i64 1)) x27 (.int .i64 1)) w fun v1 w2 =>
 C22 v1 w2
abbrev q15 (C22:VP):XP:=QX (fun ρ w=>C22 (ρ 27) w) (fun ρ w=>R (.returned (.tuple #[])) w) [(0,(fun ρ w=>b5 R (ρ 0) (ρ 2) w))]
theorem b25_ok (R:EP) (C22:VP) (ρ:Env) (w:World) (h:b25 R C22 (ρ 27) w):cP1 R (sndC p14) (q15 R C22) ρ w:=cast (by kernel_rfl) h
noncomputable abbrev p15:Code:=blkC (fstC p14)
noncomputable abbrev p16:Code:=dropC 2 p15
noncomputable abbrev p17:Code:=dropC 1 (sndC p16)
noncomputable abbrev p18:Code:=dropC 2 (thnC p17)
noncomputable abbrev p19:Code:=loopC (blkC p18)
def b34_1 (C33:VP) (x2 x8 x65 x67:Value) (w2:World) (_r:Tok R:=tok R) (_C33:Tok C33:=tok C33):Prop :=
 RUN prog (pan R) (Instr.indexAt 25 x65 x67) w2 fun v3 w4 =>
 RUN prog (pan R) (Instr.loadAt 3 v3) w4 fun v5 w6 =>
 RUNU prog (pan R) (Instr.mapUpdate 104 x2 v5 x8) w6 fun w7 =>
 RUN prog (pan R) (bins .add 3 (.tmp 67) (.const (.int .i64 1)) x67 (.int .i64 1)) w7 fun v8 w9 =>
 C33 v8 w9

def b34 (C22:VP) (C33:VP) (x2 x8 x27 x65 x66 x67:Value) (w:World) (_r:Tok R:=tok R) (_C22:Tok C22:=tok C22) (_C33:Tok C33:=tok C33):Prop :=
 RUN prog (pan R) (bins .lss 3 (.tmp 67) (.tmp 66) x67 x66) w fun v1 w2 =>
 SPL v1
 (b34_1 R C33 x2 x8 x65 x67 w2)
 (b25 R C22 x27 w2)
abbrev q16 (C22:VP) (C33:VP):XP:=QX (fun ρ w=>C33 (ρ 67) w) (fun ρ w=>R (.returned (.tuple #[])) w) [(8,(fun ρ w=>b25 R C22 (ρ 27) w)),(2,(fun ρ w=>b25 R C22 (ρ 27) w)),(0,(fun ρ w=>b5 R (ρ 0) (ρ 2) w))]
theorem b34_ok (R:EP) (C22:VP) (C33:VP) (ρ:Env) (w:World) (h:b34 R C22 C33 (ρ 2) (ρ 8) (ρ 27) (ρ 65) (ρ 66) (ρ 67) w):cP1 R p19 (q16 R C22 C33) ρ w:=cast (by kernel_rfl) h

def l33 (C22:VP) (x2 x8 x27 x65 x66 x67:Value) (w:World) (_r:Tok R:=tok R) (_C22:Tok C22:=tok C22):Prop :=
 ∃(J:VP) (μ:Value→World→Nat),J x67 w∧∀y67 w0,J y67 w0→b34 R C22 (fun z67 w1=>J z67 w1∧μ z67 w1<μ y67 w0) x2 x8 x27 x65 x66 y67 w0
abbrev q17 (C22:VP):XP:=QX (fun ρ w=>b25 R C22 (ρ 27) w) (fun ρ w=>R (.returned (.tuple #[])) w) [(8,(fun ρ w=>b25 R C22 (ρ 27) w)),(2,(fun ρ w=>b25 R C22 (ρ 27) w)),(0,(fun ρ w=>b5 R (ρ 0) (ρ 2) w))]
theorem l33_ok (R:EP) (C22:VP) (ρ:Env) (w:World) (h:l33 R C22 (ρ 2) (ρ 8) (ρ 27) (ρ 65) (ρ 66) (ρ 67) w):cP1 R (blkC p18) (q17 R C22) ρ w:=by
 unfold l33 at h
 obtain ⟨J,μ,h0,hr⟩:=h
 have e:Code.loop (loopC (blkC p18))=(blkC p18):=by kernel_rfl
 rw [←e]
 refine loopQ (fun ρ' w'=>J (ρ' 67) w') (fun ρ' w'=>μ (ρ' 67) w') h0 fun ρ' w' hA hI=>?_
 have e2:ρ' 2=ρ 2:=Agree.at hA 2 (by kernel_rfl)
 have e8:ρ' 8=ρ 8:=Agree.at hA 8 (by kernel_rfl)
 have e27:ρ' 27=ρ 27:=Agree.at hA 27 (by kernel_rfl)
 have e65:ρ' 65=ρ 65:=Agree.at hA 65 (by kernel_rfl)
 have e66:ρ' 66=ρ 66:=Agree.at hA 66 (by kernel_rfl)
 have h1:=hr (ρ' 67) w' hI
 rw [←e2,←e8,←e27,←e65,←e66] at h1
 exact b34_ok R C22 (fun z67 w1=>J z67 w1∧μ z67 w1<μ (ρ' 67) w') ρ' w' h1
theorem l33_intro (R:EP) (C22:VP) (x2 x8 x27 x65 x66 x67:Value) (w:World) (J:VP) (μ:Value→World→Nat) (h0:J x67 w)
  (hr:∀y67 w0,J y67 w0→∀C33:VP,(∀z67 w1,J z67 w1→μ z67 w1<μ y67 w0→C33 z67 w1)→b34 R C22 C33 x2 x8 x27 x65 x66 y67 w0):l33 R C22 x2 x8 x27 x65 x66 x67 w:=by
 unfold l33
 exact ⟨J,μ,h0,fun y67 w0 hJ=>hr y67 w0 hJ _ (fun z67 w1 h1 h2=>⟨h1,h2⟩)⟩
abbrev q18 (C22:VP):XP:=QX (fun ρ w=>b25 R C22 (ρ 27) w) (fun ρ w=>R (.returned (.tuple #[])) w) [(2,(fun ρ w=>b25 R C22 (ρ 27) w)),(0,(fun ρ w=>b5 R (ρ 0) (ρ 2) w))]
theorem k32_ok (R:EP) (C22:VP) (ρ:Env) (w:World) (h:l33 R C22 (ρ 2) (ρ 8) (ρ 27) (ρ 65) (ρ 66) (ρ 67) w):cP1 R p18 (q18 R C22) ρ w:=by
 have e:Code.block 4 (blkC p18)=p18:=by kernel_rfl
 rw [←e]
 exact blockQ (l33_ok R C22 ρ w h)
def b31_1 (C22:VP) (x2 x5 x27 v6:Value) (w7:World) (_r:Tok R:=tok R) (_C22:Tok C22:=tok C22):Prop :=
 PUR prog (Instr.extract v6 0) fun v8 =>
 PUR prog (Instr.extract v6 1) fun v9 =>
 CALL prog (pan R) spec_enough.id #[v8,v9] w7 fun v10 w11 =>
 RUN prog (pan R) (Builtin.len_ #[25] 3 #[x5]) w11 fun v12 w13 =>
 l33 R C22 x2 v10 x27 x5 v12 (.int .i64 0) w13

def b31 (C22:VP) (x0 x2 x4 x5 x27:Value) (w:World) (_r:Tok R:=tok R) (_C22:Tok C22:=tok C22):Prop :=
 NILC x0 fun v1 =>
 PUR prog (Instr.fieldAt 64 v1 0) fun v2 =>
 LD prog (Instr.loadAt 61 v2) (World.drew w) fun v3 =>
 PUR prog (Instr.fieldAt 106 x4 0) fun v4 =>
 LD prog (Instr.loadAt 3 v4) (World.drew w) fun v5 =>
 CALL prog (pan R) gram_Builder_Level.id #[v3,v5,x5] (World.drew w) fun v6 w7 =>
 b31_1 R C22 x2 x5 x27 v6 w7
abbrev q19 (C22:VP):XP:=QX (fun ρ w=>l33 R C22 (ρ 2) (ρ 8) (ρ 27) (ρ 65) (ρ 66) (ρ 67) w) (fun ρ w=>R (.returned (.tuple #[])) w) [(2,(fun ρ w=>b25 R C22 (ρ 27) w)),(0,(fun ρ w=>b5 R (ρ 0) (ρ 2) w))]
theorem b31_eq (R:EP) (C22:VP) (ρ:Env) (w:World):(b31 R C22 (ρ 0) (ρ 2) (ρ 4) (ρ 5) (ρ 27) w)=cP1 R (preC 1 (thnC p17)) (q19 R C22) ρ w:=by kernel_rfl
theorem b31_ok (R:EP) (C22:VP) (ρ:Env) (w:World) (h:b31 R C22 (ρ 0) (ρ 2) (ρ 4) (ρ 5) (ρ 27) w):cP1 R (thnC p17) (q18 R C22) ρ w:=by
 have e:appC 1 (preC 1 (thnC p17)) (dropC 2 (thnC p17))=(thnC p17):=by kernel_rfl
 rw [←e]
 exact appQ (fun ρ w=>l33 R C22 (ρ 2) (ρ 8) (ρ 27) (ρ 65) (ρ 66) (ρ 67) w) 1 ((b31_eq R C22 ρ w).mp h) (fun ρ w h=>k32_ok R C22 ρ w h)

def b35 (C22:VP) (x27:Value) (w:World) (_r:Tok R:=tok R) (_C22:Tok C22:=tok C22):Prop :=
 b25 R C22 x27 w
theorem b35_ok (R:EP) (C22:VP) (ρ:Env) (w:World) (h:b35 R C22 (ρ 27) w):cP1 R (elsC p17) (q18 R C22) ρ w:=cast (by kernel_rfl) h

def b30 (C22:VP) (x0 x2 x4 x5 x27 x53:Value) (w:World) (_r:Tok R:=tok R) (_C22:Tok C22:=tok C22):Prop :=
 SPL x53 (b31 R C22 x0 x2 x4 x5 x27 w) (b35 R C22 x27 w)
theorem b30_ok (R:EP) (C22:VP) (ρ:Env) (w:World) (h:b30 R C22 (ρ 0) (ρ 2) (ρ 4) (ρ 5) (ρ 27) (ρ 53) w):cP1 R p17 (q18 R C22) ρ w:=by
 have e:Code.cond (.tmp 53) (thnC p17) (elsC p17)=p17:=by kernel_rfl
 rw [←e]
 exact condQ' h (fun h=>b31_ok R C22 ρ w h) (fun h=>b35_ok R C22 ρ w h)

def b29 (C22:VP) (x0 x2 x4 x5 x27:Value) (w:World) (_r:Tok R:=tok R) (_C22:Tok C22:=tok C22):Prop :=
 RUN prog (pan R) (Instr.fieldAt 106 x4 0) w fun v1 w2 =>
 RUN prog (pan R) (Instr.loadAt 3 v1) w2 fun v3 w4 =>
 RUN prog (pan R) (bins .gtr 3 (.tmp 52) (.const (.int .i64 0)) v3 (.int .i64 0)) w4 fun v5 w6 =>
 b30 R C22 x0 x2 x4 x5 x27 v5 w6
abbrev q20 (C22:VP):XP:=QX (fun ρ w=>b30 R C22 (ρ 0) (ρ 2) (ρ 4) (ρ 5) (ρ 27) (ρ 53) w) (fun ρ w=>R (.returned (.tuple #[])) w) [(2,(fun ρ w=>b25 R C22 (ρ 27) w)),(0,(fun ρ w=>b5 R (ρ 0) (ρ 2) w))]
theorem b29_eq (R:EP) (C22:VP) (ρ:Env) (w:World):(b29 R C22 (ρ 0) (ρ 2) (ρ 4) (ρ 5) (ρ 27) w)=cP1 R (preC 0 (sndC p16)) (q20 R C22) ρ w:=by kernel_rfl
theorem b29_ok (R:EP) (C22:VP) (ρ:Env) (w:World) (h:b29 R C22 (ρ 0) (ρ 2) (ρ 4) (ρ 5) (ρ 27) w):cP1 R (sndC p16) (q18 R C22) ρ w:=by
 have e:appC 0 (preC 0 (sndC p16)) (dropC 1 (sndC p16))=(sndC p16):=by kernel_rfl
 rw [←e]
 exact appQ (fun ρ w=>b30 R C22 (ρ 0) (ρ 2) (ρ 4) (ρ 5) (ρ 27) (ρ 53) w) 0 ((b29_eq R C22 ρ w).mp h) (fun ρ w h=>b30_ok R C22 ρ w h)
noncomputable abbrev p20:Code:=dropC 1 (fstC p16)
noncomputable abbrev p21:Code:=loopC (blkC p20)
def b39_1 (C38:Value→VP) (x5 x34 v18:Value) (w19:World) (_r:Tok R:=tok R) (_C38:Tok C38:=tok C38):Prop :=
 RUN prog (pan R) (Instr.buildSlice 25 1 #[(0,v18)]) w19 fun v20 w21 =>
 RUN prog (pan R) (Builtin.append_ #[25,25] 25 #[x5,v20]) w21 fun v22 w23 =>
 RUN prog (pan R) (bins .add 3 (.tmp 34) (.const (.int .i64 1)) x34 (.int .i64 1)) w23 fun v24 w25 =>
 C38 v22 v24 w25
def b39_2 (C38:Value→VP) (x5 x34 v12:Value) (w13:World) (_r:Tok R:=tok R) (_C38:Tok C38:=tok C38):Prop :=
 RUN prog (pan R) (Instr.extract v12 0) w13 fun v14 w15 =>
 RUN prog (pan R) (Instr.extract v12 1) w15 fun v16 w17 =>
 CALL prog (pan R) spec_enough.id #[v14,v16] w17 fun v18 w19 =>
 b39_1 R C38 x5 x34 v18 w19
def b39_3 (C38:Value→VP) (x0 x5 x32 x34:Value) (w2:World) (_r:Tok R:=tok R) (_C38:Tok C38:=tok C38):Prop :=
 RUN prog (pan R) (Instr.indexAt 24 x32 x34) w2 fun v3 w4 =>
 RUN prog (pan R) (Instr.loadAt 9 v3) w4 fun v5 w6 =>
 NILC x0 fun v7 =>
 RUN prog (pan R) (Instr.fieldAt 64 v7 0) w6 fun v8 w9 =>
 RUN prog (pan R) (Instr.loadAt 61 v8) w9 fun v10 w11 =>
 CALL prog (pan R) gram_Builder_Term.id #[v10,v5] w11 fun v12 w13 =>
 b39_2 R C38 x5 x34 v12 w13

def b39 (C22:VP) (C38:Value→VP) (x0 x2 x4 x5 x27 x32 x33 x34:Value) (w:World) (_r:Tok R:=tok R) (_C22:Tok C22:=tok C22) (_C38:Tok C38:=tok C38):Prop :=
 RUN prog (pan R) (bins .lss 3 (.tmp 34) (.tmp 33) x34 x33) w fun v1 w2 =>
 SPL v1
 (b39_3 R C38 x0 x5 x32 x34 w2)
 (b29 R C22 x0 x2 x4 x5 x27 w2)
abbrev q21 (C22:VP) (C38:Value→VP):XP:=QX (fun ρ w=>C38 (ρ 5) (ρ 34) w) (fun ρ w=>R (.returned (.tuple #[])) w) [(4,(fun ρ w=>b29 R C22 (ρ 0) (ρ 2) (ρ 4) (ρ 5) (ρ 27) w)),(2,(fun ρ w=>b25 R C22 (ρ 27) w)),(0,(fun ρ w=>b5 R (ρ 0) (ρ 2) w))]
theorem b39_ok (R:EP) (C22:VP) (C38:Value→VP) (ρ:Env) (w:World) (h:b39 R C22 C38 (ρ 0) (ρ 2) (ρ 4) (ρ 5) (ρ 27) (ρ 32) (ρ 33) (ρ 34) w):cP1 R p21 (q21 R C22 C38) ρ w:=cast (by kernel_rfl) h

def l38 (C22:VP) (x0 x2 x4 x5 x27 x32 x33 x34:Value) (w:World) (_r:Tok R:=tok R) (_C22:Tok C22:=tok C22):Prop :=
 ∃(J:Value→VP) (μ:Value→Value→World→Nat),J x5 x34 w∧∀y5 y34 w0,J y5 y34 w0→b39 R C22 (fun z5 z34 w1=>J z5 z34 w1∧μ z5 z34 w1<μ y5 y34 w0) x0 x2 x4 y5 x27 x32 x33 y34 w0
abbrev q22 (C22:VP):XP:=QX (fun ρ w=>b29 R C22 (ρ 0) (ρ 2) (ρ 4) (ρ 5) (ρ 27) w) (fun ρ w=>R (.returned (.tuple #[])) w) [(4,(fun ρ w=>b29 R C22 (ρ 0) (ρ 2) (ρ 4) (ρ 5) (ρ 27) w)),(2,(fun ρ w=>b25 R C22 (ρ 27) w)),(0,(fun ρ w=>b5 R (ρ 0) (ρ 2) w))]
theorem l38_ok (R:EP) (C22:VP) (ρ:Env) (w:World) (h:l38 R C22 (ρ 0) (ρ 2) (ρ 4) (ρ 5) (ρ 27) (ρ 32) (ρ 33) (ρ 34) w):cP1 R (blkC p20) (q22 R C22) ρ w:=by
 unfold l38 at h
 obtain ⟨J,μ,h0,hr⟩:=h
 have e:Code.loop (loopC (blkC p20))=(blkC p20):=by kernel_rfl
 rw [←e]
 refine loopQ (fun ρ' w'=>J (ρ' 5) (ρ' 34) w') (fun ρ' w'=>μ (ρ' 5) (ρ' 34) w') h0 fun ρ' w' hA hI=>?_
 have e0:ρ' 0=ρ 0:=Agree.at hA 0 (by kernel_rfl)
 have e2:ρ' 2=ρ 2:=Agree.at hA 2 (by kernel_rfl)
 have e4:ρ' 4=ρ 4:=Agree.at hA 4 (by kernel_rfl)
 have e27:ρ' 27=ρ 27:=Agree.at hA 27 (by kernel_rfl)
 have e32:ρ' 32=ρ 32:=Agree.at hA 32 (by kernel_rfl)
 have e33:ρ' 33=ρ 33:=Agree.at hA 33 (by kernel_rfl)
 have h1:=hr (ρ' 5) (ρ' 34) w' hI
 rw [←e0,←e2,←e4,←e27,←e32,←e33] at h1
 exact b39_ok R C22 (fun z5 z34 w1=>J z5 z34 w1∧μ z5 z34 w1<μ (ρ' 5) (ρ' 34) w') ρ' w' h1
theorem l38_intro (R:EP) (C22:VP) (x0 x2 x4 x5 x27 x32 x33 x34:Value) (w:World) (J:Value→VP) (μ:Value→Value→World→Nat) (h0:J x5 x34 w)
  (hr:∀y5 y34 w0,J y5 y34 w0→∀C38:Value→VP,(∀z5 z34 w1,J z5 z34 w1→μ z5 z34 w1<μ y5 y34 w0→C38 z5 z34 w1)→b39 R C22 C38 x0 x2 x4 y5 x27 x32 x33 y34 w0):l38 R C22 x0 x2 x4 x5 x27 x32 x33 x34 w:=by
 unfold l38
 exact ⟨J,μ,h0,fun y5 y34 w0 hJ=>hr y5 y34 w0 hJ _ (fun z5 z34 w1 h1 h2=>⟨h1,h2⟩)⟩
abbrev q23 (C22:VP):XP:=QX (fun ρ w=>b29 R C22 (ρ 0) (ρ 2) (ρ 4) (ρ 5) (ρ 27) w) (fun ρ w=>R (.returned (.tuple #[])) w) [(2,(fun ρ w=>b25 R C22 (ρ 27) w)),(0,(fun ρ w=>b5 R (ρ 0) (ρ 2) w))]
theorem k37_ok (R:EP) (C22:VP) (ρ:Env) (w:World) (h:l38 R C22 (ρ 0) (ρ 2) (ρ 4) (ρ 5) (ρ 27) (ρ 32) (ρ 33) (ρ 34) w):cP1 R p20 (q23 R C22) ρ w:=by
 have e:Code.block 2 (blkC p20)=p20:=by kernel_rfl
 rw [←e]
 exact blockQ (l38_ok R C22 ρ w h)

def b36 (C22:VP) (x0 x2 x4 x5 x27:Value) (w:World) (_r:Tok R:=tok R) (_C22:Tok C22:=tok C22):Prop :=
 RUN prog (pan R) (Instr.fieldAt 106 x4 1) w fun v1 w2 =>
 RUN prog (pan R) (Instr.loadAt 24 v1) w2 fun v3 w4 =>
 RUN prog (pan R) (Builtin.len_ #[24] 3 #[v3]) w4 fun v5 w6 =>
 l38 R C22 x0 x2 x4 x5 x27 v3 v5 (.int .i64 0) w6
abbrev q24 (C22:VP):XP:=QX (fun ρ w=>l38 R C22 (ρ 0) (ρ 2) (ρ 4) (ρ 5) (ρ 27) (ρ 32) (ρ 33) (ρ 34) w) (fun ρ w=>R (.returned (.tuple #[])) w) [(2,(fun ρ w=>b25 R C22 (ρ 27) w)),(0,(fun ρ w=>b5 R (ρ 0) (ρ 2) w))]
theorem b36_eq (R:EP) (C22:VP) (ρ:Env) (w:World):(b36 R C22 (ρ 0) (ρ 2) (ρ 4) (ρ 5) (ρ 27) w)=cP1 R (preC 0 (fstC p16)) (q24 R C22) ρ w:=by kernel_rfl
theorem b36_ok (R:EP) (C22:VP) (ρ:Env) (w:World) (h:b36 R C22 (ρ 0) (ρ 2) (ρ 4) (ρ 5) (ρ 27) w):cP1 R (fstC p16) (q23 R C22) ρ w:=by
 have e:appC 0 (preC 0 (fstC p16)) (dropC 1 (fstC p16))=(fstC p16):=by kernel_rfl
 rw [←e]
 exact appQ (fun ρ w=>l38 R C22 (ρ 0) (ρ 2) (ρ 4) (ρ 5) (ρ 27) (ρ 32) (ρ 33) (ρ 34) w) 0 ((b36_eq R C22 ρ w).mp h) (fun ρ w h=>k37_ok R C22 ρ w h)
theorem k28_ok (R:EP) (C22:VP) (ρ:Env) (w:World) (h:b36 R C22 (ρ 0) (ρ 2) (ρ 4) (ρ 5) (ρ 27) w):cP1 R p16 (q18 R C22) ρ w:=by
 have e:Code.seq (fstC p16) (sndC p16)=p16:=by kernel_rfl
 rw [←e]
 exact seqQ (fun ρ w=>b29 R C22 (ρ 0) (ρ 2) (ρ 4) (ρ 5) (ρ 27) w) (b36_ok R C22 ρ w h) (fun ρ w h=>b29_ok R C22 ρ w h)

def b27 (C22:VP) (x0 x2 x25 x27:Value) (w:World) (_r:Tok R:=tok R) (_C22:Tok C22:=tok C22):Prop :=
 RUN prog (pan R) (Instr.indexAt 84 x25 x27) w fun v1 w2 =>
 RUN prog (pan R) (Instr.loadAt 106 v1) w2 fun v3 w4 =>
 RUN prog (pan R) (Instr.alloc 106 true (.tuple #[])) w4 fun v5 w6 =>
 RUNU prog (pan R) (Instr.storeAt 106 v5 v3) w6 fun w7 =>
 b36 R C22 x0 x2 v5 (.slice Option.none 0 0) x27 w7
abbrev q25 (C22:VP):XP:=QX (fun ρ w=>b36 R C22 (ρ 0) (ρ 2) (ρ 4) (ρ 5) (ρ 27) w) (fun ρ w=>R (.returned (.tuple #[])) w) [(2,(fun ρ w=>b25 R C22 (ρ 27) w)),(0,(fun ρ w=>b5 R (ρ 0) (ρ 2) w))]
theorem b27_eq (R:EP) (C22:VP) (ρ:Env) (w:World):(b27 R C22 (ρ 0) (ρ 2) (ρ 25) (ρ 27) w)=cP1 R (preC 1 p15) (q25 R C22) ρ w:=by kernel_rfl
theorem b27_ok (R:EP) (C22:VP) (ρ:Env) (w:World) (h:b27 R C22 (ρ 0) (ρ 2) (ρ 25) (ρ 27) w):cP1 R p15 (q18 R C22) ρ w:=by
 have e:appC 1 (preC 1 p15) (dropC 2 p15)=p15:=by kernel_rfl
 rw [←e]
 exact appQ (fun ρ w=>b36 R C22 (ρ 0) (ρ 2) (ρ 4) (ρ 5) (ρ 27) w) 1 ((b27_eq R C22 ρ w).mp h) (fun ρ w h=>k28_ok R C22 ρ w h)
abbrev q26 (C22:VP):XP:=QX (fun ρ w=>b25 R C22 (ρ 27) w) (fun ρ w=>R (.returned (.tuple #[])) w) [(0,(fun ρ w=>b5 R (ρ 0) (ρ 2) w))]
theorem k26_ok (R:EP) (C22:VP) (ρ:Env) (w:World) (h:b27 R C22 (ρ 0) (ρ 2) (ρ 25) (ρ 27) w):cP1 R (fstC p14) (q26 R C22) ρ w:=by
 have e:Code.block 1 (blkC (fstC p14))=(fstC p14):=by kernel_rfl
 rw [←e]
 exact blockQ (b27_ok R C22 ρ w h)
theorem k24_ok (R:EP) (C22:VP) (ρ:Env) (w:World) (h:b27 R C22 (ρ 0) (ρ 2) (ρ 25) (ρ 27) w):cP1 R p14 (q15 R C22) ρ w:=by
 have e:Code.seq (fstC p14) (sndC p14)=p14:=by kernel_rfl
 rw [←e]
 exact seqQ (fun ρ w=>b25 R C22 (ρ 27) w) (k26_ok R C22 ρ w h) (fun ρ w h=>b25_ok R C22 ρ w h)

def b23 (C22:VP) (x0 x2 x25 x26 x27:Value) (w:World) (_r:Tok R:=tok R) (_C22:Tok C22:=tok C22):Prop :=
 RUN prog (pan R) (bins .lss 3 (.tmp 27) (.tmp 26) x27 x26) w fun v1 w2 =>
 SPL v1
 (b27 R C22 x0 x2 x25 x27 w2)
 (b5 R x0 x2 w2)
abbrev q27 (C22:VP):XP:=QX (fun ρ w=>b27 R C22 (ρ 0) (ρ 2) (ρ 25) (ρ 27) w) (fun ρ w=>R (.returned (.tuple #[])) w) [(0,(fun ρ w=>b5 R (ρ 0) (ρ 2) w))]
theorem b23_eq (R:EP) (C22:VP) (ρ:Env) (w:World):(b23 R C22 (ρ 0) (ρ 2) (ρ 25) (ρ 26) (ρ 27) w)=cP1 R (preC 1 p13) (q27 R C22) ρ w:=by kernel_rfl
theorem b23_ok (R:EP) (C22:VP) (ρ:Env) (w:World) (h:b23 R C22 (ρ 0) (ρ 2) (ρ 25) (ρ 26) (ρ 27) w):cP1 R p13 (q15 R C22) ρ w:=by
 have e:appC 1 (preC 1 p13) (dropC 2 p13)=p13:=by kernel_rfl
 rw [←e]
 exact appQ (fun ρ w=>b27 R C22 (ρ 0) (ρ 2) (ρ 25) (ρ 27) w) 1 ((b23_eq R C22 ρ w).mp h) (fun ρ w h=>k24_ok R C22 ρ w h)

def l22 (x0 x2 x25 x26 x27:Value) (w:World) (_r:Tok R:=tok R):Prop :=
 ∃(J:VP) (μ:Value→World→Nat),J x27 w∧∀y27 w0,J y27 w0→b23 R (fun z27 w1=>J z27 w1∧μ z27 w1<μ y27 w0) x0 x2 x25 x26 y27 w0
abbrev q28:XP:=QX (fun ρ w=>b5 R (ρ 0) (ρ 2) w) (fun ρ w=>R (.returned (.tuple #[])) w) [(0,(fun ρ w=>b5 R (ρ 0) (ρ 2) w))]
theorem l22_ok (h:l22 R (ρ 0) (ρ 2) (ρ 25) (ρ 26) (ρ 27) w):cP1 R (blkC p12) (q28 R) ρ w:=by
 unfold l22 at h
 obtain ⟨J,μ,h0,hr⟩:=h
 have e:Code.loop (loopC (blkC p12))=(blkC p12):=by kernel_rfl
 rw [←e]
 refine loopQ (fun ρ' w'=>J (ρ' 27) w') (fun ρ' w'=>μ (ρ' 27) w') h0 fun ρ' w' hA hI=>?_
 have e0:ρ' 0=ρ 0:=Agree.at hA 0 (by kernel_rfl)
 have e2:ρ' 2=ρ 2:=Agree.at hA 2 (by kernel_rfl)
 have e25:ρ' 25=ρ 25:=Agree.at hA 25 (by kernel_rfl)
 have e26:ρ' 26=ρ 26:=Agree.at hA 26 (by kernel_rfl)
 have h1:=hr (ρ' 27) w' hI
 rw [←e0,←e2,←e25,←e26] at h1
 exact b23_ok R (fun z27 w1=>J z27 w1∧μ z27 w1<μ (ρ' 27) w') ρ' w' h1
theorem l22_intro (R:EP) (x0 x2 x25 x26 x27:Value) (w:World) (J:VP) (μ:Value→World→Nat) (h0:J x27 w)
  (hr:∀y27 w0,J y27 w0→∀C22:VP,(∀z27 w1,J z27 w1→μ z27 w1<μ y27 w0→C22 z27 w1)→b23 R C22 x0 x2 x25 x26 y27 w0):l22 R x0 x2 x25 x26 x27 w:=by
 unfold l22
 exact ⟨J,μ,h0,fun y27 w0 hJ=>hr y27 w0 hJ _ (fun z27 w1 h1 h2=>⟨h1,h2⟩)⟩
abbrev q29:XP:=QX (fun ρ w=>b5 R (ρ 0) (ρ 2) w) (fun ρ w=>R (.returned (.tuple #[])) w) []
theorem k21_ok (h:l22 R (ρ 0) (ρ 2) (ρ 25) (ρ 26) (ρ 27) w):cP1 R p12 (q29 R) ρ w:=by
 have e:Code.block 0 (blkC p12)=p12:=by kernel_rfl
 rw [←e]
 exact blockQ (l22_ok R ρ w h)

def b20 (x0 x2:Value) (w:World) (_r:Tok R:=tok R):Prop :=
 NILC x0 fun v1 =>
 RUN prog (pan R) (Instr.fieldAt 64 v1 1) w fun v2 w3 =>
 RUN prog (pan R) (Instr.loadAt 56 v2) w3 fun v4 w5 =>
 NILC v4 fun v6 =>
 RUN prog (pan R) (Instr.fieldAt 87 v6 4) w5 fun v7 w8 =>
 RUN prog (pan R) (Instr.loadAt 84 v7) w8 fun v9 w10 =>
 RUN prog (pan R) (Builtin.len_ #[84] 3 #[v9]) w10 fun v11 w12 =>
 l22 R x0 x2 v9 v11 (.int .i64 0) w12
abbrev q30:XP:=QX (fun ρ w=>l22 R (ρ 0) (ρ 2) (ρ 25) (ρ 26) (ρ 27) w) (fun ρ w=>R (.returned (.tuple #[])) w) []
theorem b20_eq:(b20 R (ρ 0) (ρ 2) w)=cP1 R (preC 0 (fstC p1)) (q30 R) ρ w:=by kernel_rfl
theorem b20_ok (h:b20 R (ρ 0) (ρ 2) w):cP1 R (fstC p1) (q29 R) ρ w:=by
 have e:appC 0 (preC 0 (fstC p1)) (dropC 1 (fstC p1))=(fstC p1):=by kernel_rfl
 rw [←e]
 exact appQ (fun ρ w=>l22 R (ρ 0) (ρ 2) (ρ 25) (ρ 26) (ρ 27) w) 0 ((b20_eq R ρ w).mp h) (fun ρ w h=>k21_ok R ρ w h)
theorem k2_ok (h:b20 R (ρ 0) (ρ 2) w):cP1 R p1 (q1 R) ρ w:=by
 have e:Code.seq (fstC p1) (sndC p1)=p1:=by kernel_rfl
 rw [←e]
 exact seqQ (fun ρ w=>b5 R (ρ 0) (ρ 2) w) (b20_ok R ρ w h) (fun ρ w h=>k3_ok R ρ w h)

def b1 (x0:Value) (w:World) (_r:Tok R:=tok R):Prop :=
 RUN prog (pan R) (Instr.makeMap 104 none) w fun v1 w2 =>
 b20 R x0 v1 w2
abbrev q31:XP:=QX (fun ρ w=>b20 R (ρ 0) (ρ 2) w) (fun ρ w=>R (.returned (.tuple #[])) w) []
theorem b1_eq:(b1 R (ρ 0) w)=cP1 R (preC 0 code) (q31 R) ρ w:=by kernel_rfl
theorem b1_ok (h:b1 R (ρ 0) w):cP1 R code (q1 R) ρ w:=by
 have e:appC 0 (preC 0 code) (dropC 1 code)=code:=by kernel_rfl
 rw [←e]
 exact appQ (fun ρ w=>b20 R (ρ 0) (ρ 2) w) 0 ((b1_eq R ρ w).mp h) (fun ρ w h=>k2_ok R ρ w h)
/-- What is owed for a call. -/
def run (a0:Value) (w:World):Prop:=b1 R a0 w
theorem calls (R:EP) (a0:Value) (w:World) (h:run R a0 w):Calls prog id #[a0] w R :=
 calls_of_0 (f:=id) (fn:=f28) (c:=code) (by kernel_rfl) func28 (by kernel_rfl) (by kernel_rfl) (args:=[a0]) (Nat.le_of_ble_eq_true rfl) rfl (b1_ok R (envOf [a0]) w h)
theorem enters:Enters prog id:=fun args w=>call28 args w
theorem ct {a0:Value} {w:World} {S:VP} (h:∀R:EP,(∀v w,S v w→R (.returned v) w)→run R a0 w):Ct prog id #[a0] w S :=
 Ct.intro enters fun R hR=>calls R a0 w (h R hR)
attribute [irreducible] b4_1 b4_2 b4 b10 b15_1 b15 b14_1 b14_2 b14_3 b14_4 b14_5 b14_6 b14_7 b14_8 b14 b19_1 b19_2 b19 l18 b16 b12_1 b12 b8 l7 b5 b25 b34_1 b34 l33 b31_1 b31 b35 b30 b29 b39_1 b39_2 b39_3 b39 l38 b36 b27 b23 l22 b20 b1 run
attribute [go_sem] b4_1 b4_2 b4 b10 b15_1 b15 b14_1 b14_2 b14_3 b14_4 b14_5 b14_6 b14_7 b14_8 b14 b19_1 b19_2 b19 b16 b12_1 b12 b8 b5 b25 b34_1 b34 b31_1 b31 b35 b30 b29 b39_1 b39_2 b39_3 b39 b36 b27 b23 b20 b1 run
end spec_maker_all

/-! ### (*presage/spec.reader).text -/
namespace spec_reader_text
noncomputable def code:Code:=bodyOf f43
noncomputable abbrev p1:Code:=dropC 1 (sndC code)
noncomputable abbrev p2:Code:=dropC 1 (sndC p1)
def b5 (x0 x38:Value) (w:World) (_r:Tok R:=tok R):Prop :=
 SPL x38
 (CALL prog (pan R) spec_reader_fail.id #[x0] w fun v1 w2 =>
 R (.returned (.tuple #[])) w2)
 (R (.returned (.tuple #[])) w)
abbrev q1:XP:=QX (fun ρ w=>R (.returned (.tuple #[])) w) (fun ρ w=>R (.returned (.tuple #[])) w) []
theorem b5_ok (h:b5 R (ρ 0) (ρ 38) w):cP1 R p2 (q1 R) ρ w:=cast (by kernel_rfl) h
def b4_1 (x0:Value) (w:World) (_r:Tok R:=tok R):Prop :=
 NILC x0 fun v5 =>
 PUR prog (Instr.fieldAt 87 v5 6) fun v6 =>
 LD prog (Instr.loadAt 82 v6) (World.drew w) fun v7 =>
 NILC x0 fun v8 =>
 PUR prog (Instr.fieldAt 87 v8 5) fun v9 =>
 LD prog (Instr.loadAt 9 v9) (World.drew w) fun v10 =>
 LD prog (Instr.lookup 82 v7 v10 false) (World.drew w) fun v11 =>
 PUR prog (bins .eql 3 (.tmp 36) (.const (.int .i64 0)) v11 (.int .i64 0)) fun v12 =>
 b5 R x0 v12 (World.drew w)
def b4 (x0:Value) (w:World) (_r:Tok R:=tok R):Prop :=
 NILC x0 fun v1 =>
 PUR prog (Instr.fieldAt 87 v1 5) fun v2 =>
 LD prog (Instr.loadAt 9 v2) (World.drew w) fun v3 =>
 PUR prog (bins .neq 9 (.tmp 25) (.const (.string {data:=#[] })) v3 (.string {data:=#[] })) fun v4 =>
 SPL v4
 (b4_1 R x0 w)
 (b5 R x0 (.bool Bool.false) (World.drew w))
abbrev q2:XP:=QX (fun ρ w=>b5 R (ρ 0) (ρ 38) w) (fun ρ w=>R (.returned (.tuple #[])) w) []
theorem b4_eq:(b4 R (ρ 0) w)=cP1 R (preC 0 (sndC p1)) (q2 R) ρ w:=by kernel_rfl
theorem b4_ok (h:b4 R (ρ 0) w):cP1 R (sndC p1) (q1 R) ρ w:=by
 have e:appC 0 (preC 0 (sndC p1)) (dropC 1 (sndC p1))=(sndC p1):=by kernel_rfl
 rw [←e]
 exact appQ (fun ρ w=>b5 R (ρ 0) (ρ 38) w) 0 ((b4_eq R ρ w).mp h) (fun ρ w h=>b5_ok R ρ w h)
noncomputable abbrev p3:Code:=blkC (fstC p1)
def b8 (C7:World→Prop) (x0:Value) (w:World) (_r:Tok R:=tok R) (_C7:Tok C7:=tok C7):Prop :=
 NILC x0 fun v1 =>
 PUR prog (Instr.fieldAt 87 v1 1) fun v2 =>
 LD prog (Instr.loadAt 3 v2) (World.drew w) fun v3 =>
 NILC x0 fun v4 =>
 PUR prog (Instr.fieldAt 87 v4 0) fun v5 =>
 LD prog (Instr.loadAt 83 v5) (World.drew w) fun v6 =>
 LD prog (Builtin.len_ #[83] 3 #[v6]) (World.drew w) fun v7 =>
 PUR prog (bins .lss 3 (.tmp 13) (.tmp 18) v3 v7) fun v8 =>
 SPL v8
 (CALL prog (pan R) spec_reader_rule.id #[x0] (World.drew w) fun v9 w10 =>
 C7  w10)
 (b4 R x0 (World.drew w))
abbrev q3 (C7:World→Prop):XP:=QX (fun ρ w=>C7  w) (fun ρ w=>R (.returned (.tuple #[])) w) [(4,(fun ρ w=>b4 R (ρ 0) w))]
theorem b8_ok (R:EP) (C7:World→Prop) (ρ:Env) (w:World) (h:b8 R C7 (ρ 0) w):cP1 R (loopC p3) (q3 R C7) ρ w:=cast (by kernel_rfl) h
def l7 (x0:Value) (w:World) (_r:Tok R:=tok R):Prop :=
 ∃(J:World→Prop) (μ:World→Nat),J  w∧∀w0,J  w0→b8 R (fun  w1=>J  w1∧μ  w1<μ  w0) x0 w0
abbrev q4:XP:=QX (fun ρ w=>b4 R (ρ 0) w) (fun ρ w=>R (.returned (.tuple #[])) w) [(4,(fun ρ w=>b4 R (ρ 0) w))]
theorem l7_ok (h:l7 R (ρ 0) w):cP1 R p3 (q4 R) ρ w:=by
 unfold l7 at h
 obtain ⟨J,μ,h0,hr⟩:=h
 have e:Code.loop (loopC p3)=p3:=by kernel_rfl
 rw [←e]
 refine loopQ (fun ρ' w'=>J  w') (fun ρ' w'=>μ  w') h0 fun ρ' w' hA hI=>?_
 have e0:ρ' 0=ρ 0:=Agree.at hA 0 (by kernel_rfl)
 have h1:=hr  w' hI
 rw [←e0] at h1
 exact b8_ok R (fun  w1=>J  w1∧μ  w1<μ  w') ρ' w' h1
theorem l7_intro (R:EP) (x0:Value) (w:World) (J:World→Prop) (μ:World→Nat) (h0:J  w)
  (hr:∀w0,J  w0→∀C7:World→Prop,(∀w1,J  w1→μ  w1<μ  w0→C7  w1)→b8 R C7 x0 w0):l7 R x0 w:=by
 unfold l7
 exact ⟨J,μ,h0,fun  w0 hJ=>hr  w0 hJ _ (fun  w1 h1 h2=>⟨h1,h2⟩)⟩
abbrev q5:XP:=QX (fun ρ w=>b4 R (ρ 0) w) (fun ρ w=>R (.returned (.tuple #[])) w) []
theorem k6_ok (h:l7 R (ρ 0) w):cP1 R (fstC p1) (q5 R) ρ w:=by
 have e:Code.block 2 (blkC (fstC p1))=(fstC p1):=by kernel_rfl
 rw [←e]
 exact blockQ (l7_ok R ρ w h)
theorem k3_ok (h:l7 R (ρ 0) w):cP1 R p1 (q1 R) ρ w:=by
 have e:Code.seq (fstC p1) (sndC p1)=p1:=by kernel_rfl
 rw [←e]
 exact seqQ (fun ρ w=>b4 R (ρ 0) w) (k6_ok R ρ w h) (fun ρ w h=>b4_ok R ρ w h)
def b2 (x0:Value) (w:World) (_r:Tok R:=tok R):Prop :=
 CALL prog (pan R) spec_reader_rule.id #[x0] w fun v1 w2 =>
 l7 R x0 w2
abbrev q6:XP:=QX (fun ρ w=>l7 R (ρ 0) w) (fun ρ w=>R (.returned (.tuple #[])) w) []
theorem b2_eq:(b2 R (ρ 0) w)=cP1 R (preC 0 (sndC code)) (q6 R) ρ w:=by kernel_rfl
theorem b2_ok (h:b2 R (ρ 0) w):cP1 R (sndC code) (q1 R) ρ w:=by
 have e:appC 0 (preC 0 (sndC code)) (dropC 1 (sndC code))=(sndC code):=by kernel_rfl
 rw [←e]
 exact appQ (fun ρ w=>l7 R (ρ 0) w) 0 ((b2_eq R ρ w).mp h) (fun ρ w h=>k3_ok R ρ w h)
noncomputable abbrev p4:Code:=blkC (fstC code)
def b11_1 (C10:World→Prop) (x0 v1:Value) (w2:World) (_r:Tok R:=tok R) (_C10:Tok C10:=tok C10):Prop :=
 RUN prog (pan R) (Instr.field 91 v1 0) w2 fun v3 w4 =>
 RUN prog (pan R) (bins .eql 3 (.tmp 4) (.const (.int .i64 3)) v3 (.int .i64 3)) w4 fun v5 w6 =>
 SPL v5
 (CALL prog (pan R) spec_reader_header.id #[x0] w6 fun v7 w8 =>
 C10  w8)
 (b2 R x0 w6)
def b11 (C10:World→Prop) (x0:Value) (w:World) (_r:Tok R:=tok R) (_C10:Tok C10:=tok C10):Prop :=
 CALL prog (pan R) spec_reader_now.id #[x0] w fun v1 w2 =>
 b11_1 R C10 x0 v1 w2
abbrev q7 (C10:World→Prop):XP:=QX (fun ρ w=>C10  w) (fun ρ w=>R (.returned (.tuple #[])) w) [(0,(fun ρ w=>b2 R (ρ 0) w))]
theorem b11_ok (R:EP) (C10:World→Prop) (ρ:Env) (w:World) (h:b11 R C10 (ρ 0) w):cP1 R (loopC p4) (q7 R C10) ρ w:=cast (by kernel_rfl) h
def l10 (x0:Value) (w:World) (_r:Tok R:=tok R):Prop :=
 ∃(J:World→Prop) (μ:World→Nat),J  w∧∀w0,J  w0→b11 R (fun  w1=>J  w1∧μ  w1<μ  w0) x0 w0
abbrev q8:XP:=QX (fun ρ w=>b2 R (ρ 0) w) (fun ρ w=>R (.returned (.tuple #[])) w) [(0,(fun ρ w=>b2 R (ρ 0) w))]
theorem l10_ok (h:l10 R (ρ 0) w):cP1 R p4 (q8 R) ρ w:=by
 unfold l10 at h
 obtain ⟨J,μ,h0,hr⟩:=h
 have e:Code.loop (loopC p4)=p4:=by kernel_rfl
 rw [←e]
 refine loopQ (fun ρ' w'=>J  w') (fun ρ' w'=>μ  w') h0 fun ρ' w' hA hI=>?_
 have e0:ρ' 0=ρ 0:=Agree.at hA 0 (by kernel_rfl)
 have h1:=hr  w' hI
 rw [←e0] at h1
 exact b11_ok R (fun  w1=>J  w1∧μ  w1<μ  w') ρ' w' h1
theorem l10_intro (R:EP) (x0:Value) (w:World) (J:World→Prop) (μ:World→Nat) (h0:J  w)
  (hr:∀w0,J  w0→∀C10:World→Prop,(∀w1,J  w1→μ  w1<μ  w0→C10  w1)→b11 R C10 x0 w0):l10 R x0 w:=by
 unfold l10
 exact ⟨J,μ,h0,fun  w0 hJ=>hr  w0 hJ _ (fun  w1 h1 h2=>⟨h1,h2⟩)⟩
abbrev q9:XP:=QX (fun ρ w=>b2 R (ρ 0) w) (fun ρ w=>R (.returned (.tuple #[])) w) []
theorem k9_ok (h:l10 R (ρ 0) w):cP1 R (fstC code) (q9 R) ρ w:=by
 have e:Code.block 0 (blkC (fstC code))=(fstC code):=by kernel_rfl
 rw [←e]
 exact blockQ (l10_ok R ρ w h)
theorem k1_ok (h:l10 R (ρ 0) w):cP1 R code (q1 R) ρ w:=by
 have e:Code.seq (fstC code) (sndC code)=code:=by kernel_rfl
 rw [←e]
 exact seqQ (fun ρ w=>b2 R (ρ 0) w) (k9_ok R ρ w h) (fun ρ w h=>b2_ok R ρ w h)
/-- What is owed for a call. -/
def run (a0:Value) (w:World):Prop:=l10 R a0 w
theorem calls (R:EP) (a0:Value) (w:World) (h:run R a0 w):Calls prog id #[a0] w R :=
 calls_of_0 (f:=id) (fn:=f43) (c:=code) (by kernel_rfl) func43 (by kernel_rfl) (by kernel_rfl) (args:=[a0]) (Nat.le_of_ble_eq_true rfl) rfl (k1_ok R (envOf [a0]) w h)
theorem enters:Enters prog id:=fun args w=>call43 args w
theorem ct {a0:Value} {w:World} {S:VP} (h:∀R:EP,(∀v w,S v w→R (.returned v) w)→run R a0 w):Ct prog id #[a0] w S :=
 Ct.intro enters fun R hR=>calls R a0 w (h R hR)
attribute [irreducible] b5 b4_1 b4 b8 l7 b2 b11_1 b11 l10 run
attribute [go_sem] b5 b4_1 b4 b8 b2 b11_1 b11 run
end spec_reader_text

/-! ### presage/spec.enough -/
namespace spec_enough
noncomputable def code:Code:=bodyOf f44
noncomputable abbrev p1:Code:=dropC 2 code
def b2 (x0:Value) (w:World) (_r:Tok R:=tok R):Prop :=
 R (.returned x0) w
abbrev q1:XP:=QX (fun ρ w=>R (.returned (ρ 4)) w) (fun ρ w=>R (.returned (ρ 4)) w) []
theorem b2_ok (h:b2 R (ρ 0) w):cP1 R p1 (q1 R) ρ w:=cast (by kernel_rfl) h
def b1_1 (x0 x1:Value) (w2:World) (_r:Tok R:=tok R):Prop :=
 RUN prog (pan R) (Instr.makeInterface 29 x1) w2 fun v3 w4 =>
 RUN prog (pan R) (Instr.panic v3) w4 fun v5 w6 =>
 b2 R x0 w6
def b1 (x0 x1:Value) (w:World) (_r:Tok R:=tok R):Prop :=
 RUN prog (pan R) (bins .neq 29 (.tmp 5) (.const (.int .i64 0)) x1 (.int .i64 0)) w fun v1 w2 =>
 SPL v1
 (b1_1 R x0 x1 w2)
 (b2 R x0 w2)
abbrev q2:XP:=QX (fun ρ w=>b2 R (ρ 0) w) (fun ρ w=>R (.returned (ρ 4)) w) []
theorem b1_eq:(b1 R (ρ 0) (ρ 1) w)=cP1 R (preC 1 code) (q2 R) ρ w:=by kernel_rfl
theorem b1_ok (h:b1 R (ρ 0) (ρ 1) w):cP1 R code (q1 R) ρ w:=by
 have e:appC 1 (preC 1 code) (dropC 2 code)=code:=by kernel_rfl
 rw [←e]
 exact appQ (fun ρ w=>b2 R (ρ 0) w) 1 ((b1_eq R ρ w).mp h) (fun ρ w h=>b2_ok R ρ w h)
/-- What is owed for a call. -/
def run (a0 a1:Value) (w:World):Prop:=b1 R a0 a1 w
theorem calls (R:EP) (a0 a1:Value) (w:World) (h:run R a0 a1 w):Calls prog id #[a0,a1] w R :=
 calls_of_t (f:=id) (fn:=f44) (c:=code) (by kernel_rfl) func44 (by kernel_rfl) (by kernel_rfl) (args:=[a0,a1]) (Nat.le_of_ble_eq_true rfl) rfl (b1_ok R (envOf [a0,a1]) w h)
theorem enters:Enters prog id:=fun args w=>call44 args w
theorem ct {a0 a1:Value} {w:World} {S:VP} (h:∀R:EP,(∀v w,S v w→R (.returned v) w)→run R a0 a1 w):Ct prog id #[a0,a1] w S :=
 Ct.intro enters fun R hR=>calls R a0 a1 w (h R hR)
attribute [irreducible] b2 b1_1 b1 run
attribute [go_sem] b2 b1_1 b1 run
end spec_enough

/-! ### (*presage/spec.maker).symbol -/
namespace spec_maker_symbol
noncomputable def code:Code:=bodyOf f48
noncomputable abbrev p1:Code:=dropC 1 code
def b3_1 (v6:Value) (w7:World) (_r:Tok R:=tok R):Prop :=
 PUR prog (Instr.extract v6 0) fun v8 =>
 PUR prog (Instr.extract v6 1) fun v9 =>
 CALL prog (pan R) spec_enough.id #[v8,v9] w7 fun v10 w11 =>
 R (.returned v10) w11
def b3 (x0 x3:Value) (w:World) (_r:Tok R:=tok R):Prop :=
 NILC x0 fun v1 =>
 PUR prog (Instr.fieldAt 64 v1 0) fun v2 =>
 LD prog (Instr.loadAt 61 v2) (World.drew w) fun v3 =>
 PUR prog (Instr.fieldAt 91 x3 1) fun v4 =>
 LD prog (Instr.loadAt 9 v4) (World.drew w) fun v5 =>
 CALL prog (pan R) gram_Builder_Term.id #[v3,v5] (World.drew w) fun v6 w7 =>
 b3_1 R v6 w7
abbrev q1:XP:=QX (fun ρ w=>R (.returned (ρ 4)) w) (fun ρ w=>R (.returned (ρ 4)) w) []
theorem b3_ok (h:b3 R (ρ 0) (ρ 3) w):cP1 R (sndC p1) (q1 R) ρ w:=cast (by kernel_rfl) h
noncomputable abbrev p2:Code:=dropC 1 (fstC p1)
def b5_1 (v6:Value) (w7:World) (_r:Tok R:=tok R):Prop :=
 PUR prog (Instr.extract v6 0) fun v8 =>
 PUR prog (Instr.extract v6 1) fun v9 =>
 CALL prog (pan R) spec_enough.id #[v8,v9] w7 fun v10 w11 =>
 R (.returned v10) w11
def b5_2 (x0 x3:Value) (w:World) (_r:Tok R:=tok R):Prop :=
 NILC x0 fun v1 =>
 PUR prog (Instr.fieldAt 64 v1 0) fun v2 =>
 LD prog (Instr.loadAt 61 v2) (World.drew w) fun v3 =>
 PUR prog (Instr.fieldAt 91 x3 1) fun v4 =>
 LD prog (Instr.loadAt 9 v4) (World.drew w) fun v5 =>
 CALL prog (pan R) gram_Builder_Non.id #[v3,v5] (World.drew w) fun v6 w7 =>
 b5_1 R v6 w7
def b5 (x0 x3 x20:Value) (w:World) (_r:Tok R:=tok R):Prop :=
 SPL x20
 (b5_2 R x0 x3 w)
 (b3 R x0 x3 w)
abbrev q2:XP:=QX (fun ρ w=>b3 R (ρ 0) (ρ 3) w) (fun ρ w=>R (.returned (ρ 4)) w) []
theorem b5_ok (h:b5 R (ρ 0) (ρ 3) (ρ 20) w):cP1 R p2 (q2 R) ρ w:=cast (by kernel_rfl) h
def b4_1 (x0 x3:Value) (w:World) (_r:Tok R:=tok R):Prop :=
 NILC x0 fun v4 =>
 PUR prog (Instr.fieldAt 64 v4 1) fun v5 =>
 LD prog (Instr.loadAt 56 v5) (World.drew w) fun v6 =>
 NILC v6 fun v7 =>
 PUR prog (Instr.fieldAt 87 v7 6) fun v8 =>
 LD prog (Instr.loadAt 82 v8) (World.drew w) fun v9 =>
 PUR prog (Instr.fieldAt 91 x3 1) fun v10 =>
 LD prog (Instr.loadAt 9 v10) (World.drew w) fun v11 =>
 LD prog (Instr.lookup 82 v9 v11 false) (World.drew w) fun v12 =>
 PUR prog (bins .gtr 3 (.tmp 18) (.const (.int .i64 0)) v12 (.int .i64 0)) fun v13 =>
 b5 R x0 x3 v13 (World.drew w)
def b4 (x0 x3:Value) (w:World) (_r:Tok R:=tok R):Prop :=
 PUR prog (Instr.fieldAt 91 x3 0) fun v1 =>
 LD prog (Instr.loadAt 3 v1) (World.drew w) fun v2 =>
 PUR prog (bins .eql 3 (.tmp 6) (.const (.int .i64 1)) v2 (.int .i64 1)) fun v3 =>
 SPL v3
 (b4_1 R x0 x3 w)
 (b5 R x0 x3 (.bool Bool.false) (World.drew w))
abbrev q3:XP:=QX (fun ρ w=>b5 R (ρ 0) (ρ 3) (ρ 20) w) (fun ρ w=>R (.returned (ρ 4)) w) []
theorem b4_eq:(b4 R (ρ 0) (ρ 3) w)=cP1 R (preC 0 (fstC p1)) (q3 R) ρ w:=by kernel_rfl
theorem b4_ok (h:b4 R (ρ 0) (ρ 3) w):cP1 R (fstC p1) (q2 R) ρ w:=by
 have e:appC 0 (preC 0 (fstC p1)) (dropC 1 (fstC p1))=(fstC p1):=by kernel_rfl
 rw [←e]
 exact appQ (fun ρ w=>b5 R (ρ 0) (ρ 3) (ρ 20) w) 0 ((b4_eq R ρ w).mp h) (fun ρ w h=>b5_ok R ρ w h)
theorem k2_ok (h:b4 R (ρ 0) (ρ 3) w):cP1 R p1 (q1 R) ρ w:=by
 have e:Code.seq (fstC p1) (sndC p1)=p1:=by kernel_rfl
 rw [←e]
 exact seqQ (fun ρ w=>b3 R (ρ 0) (ρ 3) w) (b4_ok R ρ w h) (fun ρ w h=>b3_ok R ρ w h)
def b1 (x0 x1:Value) (w:World) (_r:Tok R:=tok R):Prop :=
 RUN prog (pan R) (Instr.box 91 x1) w fun v1 w2 =>
 b4 R x0 v1 w2
abbrev q4:XP:=QX (fun ρ w=>b4 R (ρ 0) (ρ 3) w) (fun ρ w=>R (.returned (ρ 4)) w) []
theorem b1_eq:(b1 R (ρ 0) (ρ 1) w)=cP1 R (preC 0 code) (q4 R) ρ w:=by kernel_rfl
theorem b1_ok (h:b1 R (ρ 0) (ρ 1) w):cP1 R code (q1 R) ρ w:=by
 have e:appC 0 (preC 0 code) (dropC 1 code)=code:=by kernel_rfl
 rw [←e]
 exact appQ (fun ρ w=>b4 R (ρ 0) (ρ 3) w) 0 ((b1_eq R ρ w).mp h) (fun ρ w h=>k2_ok R ρ w h)
/-- What is owed for a call. -/
def run (a0 a1:Value) (w:World):Prop:=b1 R a0 a1 w
theorem calls (R:EP) (a0 a1:Value) (w:World) (h:run R a0 a1 w):Calls prog id #[a0,a1] w R :=
 calls_of_t (f:=id) (fn:=f48) (c:=code) (by kernel_rfl) func48 (by kernel_rfl) (by kernel_rfl) (args:=[a0,a1]) (Nat.le_of_ble_eq_true rfl) rfl (b1_ok R (envOf [a0,a1]) w h)
theorem enters:Enters prog id:=fun args w=>call48 args w
theorem ct {a0 a1:Value} {w:World} {S:VP} (h:∀R:EP,(∀v w,S v w→R (.returned v) w)→run R a0 a1 w):Ct prog id #[a0,a1] w S :=
 Ct.intro enters fun R hR=>calls R a0 a1 w (h R hR)
attribute [irreducible] b3_1 b3 b5_1 b5_2 b5 b4_1 b4 b1 run
attribute [go_sem] b3_1 b3 b5_1 b5_2 b5 b4_1 b4 b1 run
end spec_maker_symbol

/-! ### (*presage/spec.reader).now -/
namespace spec_reader_now
noncomputable def code:Code:=bodyOf f73
def b1_1 (x0 v1:Value) (w2:World) (_r:Tok R:=tok R):Prop :=
 NILC x0 fun v11 =>
 PUR prog (Instr.fieldAt 87 v11 0) fun v12 =>
 LD prog (Instr.loadAt 83 v12) (World.drew (World.drew w2)) fun v13 =>
 NILC x0 fun v14 =>
 PUR prog (Instr.fieldAt 87 v14 1) fun v15 =>
 LD prog (Instr.loadAt 3 v15) (World.drew (World.drew w2)) fun v16 =>
 PUR prog (Instr.indexAt 83 v13 v16) fun v17 =>
 LD prog (Instr.loadAt 91 v17) (World.drew (World.drew w2)) fun v18 =>
 RUNU prog (pan R) (Instr.storeAt 91 v1 v18) (World.drew (World.drew w2)) fun w19 =>
 LD prog (Instr.loadAt 91 v1) w19 fun r0=>R (.returned r0) w19
def b1_2 (x0 v1:Value) (w2:World) (_r:Tok R:=tok R):Prop :=
 NILC x0 fun v20 =>
 RUN prog (pan R) (Instr.fieldAt 87 v20 2) (World.drew w2) fun v21 w22 =>
 RUN prog (pan R) (Instr.loadAt 3 v21) w22 fun v23 w24 =>
 RUN prog (pan R) (Instr.build 91 #[(2,v23)]) w24 fun v25 w26 =>
 RUNU prog (pan R) (Instr.storeAt 91 v1 v25) w26 fun w27 =>
 LD prog (Instr.loadAt 91 v1) w27 fun r0=>R (.returned r0) w27
def b1 (x0:Value) (w:World) (_r:Tok R:=tok R):Prop :=
 RUN prog (pan R) (Instr.alloc 91 true (.tuple #[])) w fun v1 w2 =>
 NILC x0 fun v3 =>
 PUR prog (Instr.fieldAt 87 v3 1) fun v4 =>
 LD prog (Instr.loadAt 3 v4) (World.drew w2) fun v5 =>
 NILC x0 fun v6 =>
 PUR prog (Instr.fieldAt 87 v6 0) fun v7 =>
 LD prog (Instr.loadAt 83 v7) (World.drew w2) fun v8 =>
 LD prog (Builtin.len_ #[83] 3 #[v8]) (World.drew w2) fun v9 =>
 PUR prog (bins .lss 3 (.tmp 6) (.tmp 11) v5 v9) fun v10 =>
 SPL v10
 (b1_1 R x0 v1 w2)
 (b1_2 R x0 v1 w2)
abbrev q1:XP:=QX (fun ρ w=>LD prog (Instr.loadAt 91 (ρ 2)) w fun r0=>R (.returned r0) w) (fun ρ w=>LD prog (Instr.loadAt 91 (ρ 2)) w fun r0=>R (.returned r0) w) []
theorem b1_ok (h:b1 R (ρ 0) w):cP1 R code (q1 R) ρ w:=cast (by kernel_rfl) h
/-- What is owed for a call. -/
def run (a0:Value) (w:World):Prop:=b1 R a0 w
theorem calls (R:EP) (a0:Value) (w:World) (h:run R a0 w):Calls prog id #[a0] w R :=
 calls_of_c (f:=id) (fn:=f73) (c:=code) (by kernel_rfl) func73 (by kernel_rfl) (by kernel_rfl) (args:=[a0]) (Nat.le_of_ble_eq_true rfl) rfl (b1_ok R (envOf [a0]) w h)
theorem enters:Enters prog id:=fun args w=>call73 args w
theorem ct {a0:Value} {w:World} {S:VP} (h:∀R:EP,(∀v w,S v w→R (.returned v) w)→run R a0 w):Ct prog id #[a0] w S :=
 Ct.intro enters fun R hR=>calls R a0 w (h R hR)
attribute [irreducible] b1_1 b1_2 b1 run
attribute [go_sem] b1_1 b1_2 b1 run
end spec_reader_now

/-! ### (*presage/spec.reader).header -/
namespace spec_reader_header
noncomputable def code:Code:=bodyOf f74
noncomputable abbrev p1:Code:=dropC 3 code
noncomputable abbrev p2:Code:=dropC 2 (sndC p1)
noncomputable abbrev p3:Code:=dropC 1 p2
def b6_1 (x0 x6:Value) (w2:World) (_r:Tok R:=tok R):Prop :=
 NILC x0 fun v3 =>
 PUR prog (Instr.fieldAt 87 v3 4) fun v4 =>
 LD prog (Instr.loadAt 84 v4) (World.drew w2) fun v5 =>
 LD prog (Instr.loadAt 106 x6) (World.drew w2) fun v6 =>
 RUN prog (pan R) (Instr.buildSlice 84 1 #[(0,v6)]) (World.drew w2) fun v7 w8 =>
 Sem.run prog (Instr.loadAt 84 v4) w8 = .ok v5 w8∧(RUN prog (pan R) (Builtin.append_ #[84,84] 84 #[v5,v7]) w8 fun v9 w10 =>
 NILC x0 fun v11 =>
 PUR prog (Instr.fieldAt 87 v11 4) fun v12 =>
 RUNU prog (pan R) (Instr.storeAt 84 v12 v9) w10 fun w13 =>
 R (.returned (.tuple #[])) w13)

def b6 (x0 x6:Value) (w:World) (_r:Tok R:=tok R):Prop :=
 CALL prog (pan R) spec_reader_need.id #[x0,(.string {data:=#[59] })] w fun v1 w2 =>
 b6_1 R x0 x6 w2
abbrev q1:XP:=QX (fun ρ w=>R (.returned (.tuple #[])) w) (fun ρ w=>R (.returned (.tuple #[])) w) []
theorem b6_ok (h:b6 R (ρ 0) (ρ 6) w):cP1 R (sndC p3) (q1 R) ρ w:=cast (by kernel_rfl) h
noncomputable abbrev p4:Code:=blkC (fstC p3)
noncomputable abbrev p5:Code:=dropC 1 (loopC p4)
noncomputable abbrev p6:Code:=dropC 1 (blkC p5)

def b13 (C8:World→Prop) (x0 x4 x6 x7:Value) (w:World) (_r:Tok R:=tok R) (_C8:Tok C8:=tok C8):Prop :=
 NILC x0 fun v1 =>
 RUN prog (pan R) (Instr.fieldAt 87 v1 3) w fun v2 w3 =>
 RUN prog (pan R) (Instr.loadAt 82 v2) w3 fun v4 w5 =>
 RUN prog (pan R) (Builtin.min_ #[3,3] 3 #[x4,(.int .i64 1)]) w5 fun v6 w7 =>
 RUN prog (pan R) (bins .add 3 (.tmp 95) (.const (.int .i64 1)) v6 (.int .i64 1)) w7 fun v8 w9 =>
 RUNU prog (pan R) (Instr.mapUpdate 82 v4 x7 v8) w9 fun w10 =>
 RUN prog (pan R) (Instr.fieldAt 106 x6 1) w10 fun v11 w12 =>
 RUN prog (pan R) (Instr.loadAt 24 v11) w12 fun v13 w14 =>
 RUN prog (pan R) (Instr.buildSlice 24 1 #[(0,x7)]) w14 fun v15 w16 =>
 RUN prog (pan R) (Builtin.append_ #[24,24] 24 #[v13,v15]) w16 fun v17 w18 =>
 RUN prog (pan R) (Instr.fieldAt 106 x6 1) w18 fun v19 w20 =>
 RUNU prog (pan R) (Instr.storeAt 24 v19 v17) w20 fun w21 =>
 NILC x0 fun v22 =>
 RUN prog (pan R) (Instr.fieldAt 87 v22 1) w21 fun v23 w24 =>
 RUN prog (pan R) (Instr.loadAt 3 v23) w24 fun v25 w26 =>
 RUN prog (pan R) (bins .add 3 (.tmp 106) (.const (.int .i64 1)) v25 (.int .i64 1)) w26 fun v27 w28 =>
 NILC x0 fun v29 =>
 RUN prog (pan R) (Instr.fieldAt 87 v29 1) w28 fun v30 w31 =>
 RUNU prog (pan R) (Instr.storeAt 3 v30 v27) w31 fun w32 =>
 C8  w32
abbrev q2 (C8:World→Prop):XP:=QX (fun ρ w=>C8  w) (fun ρ w=>R (.returned (.tuple #[])) w) [(4,(fun ρ w=>C8  w)),(2,(fun ρ w=>b6 R (ρ 0) (ρ 6) w))]
theorem b13_ok (R:EP) (C8:World→Prop) (ρ:Env) (w:World) (h:b13 R C8 (ρ 0) (ρ 4) (ρ 6) (ρ 7) w):cP1 R (sndC p6) (q2 R C8) ρ w:=cast (by kernel_rfl) h
noncomputable abbrev p7:Code:=dropC 1 (fstC p6)

def b15 (C8:World→Prop) (x0 x4 x6 x7 x86:Value) (w:World) (_r:Tok R:=tok R) (_C8:Tok C8:=tok C8):Prop :=
 SPL x86
 (CALL prog (pan R) spec_reader_fail.id #[x0] w fun v1 w2 =>
 b13 R C8 x0 x4 x6 x7 w2)
 (b13 R C8 x0 x4 x6 x7 w)
abbrev q3 (C8:World→Prop):XP:=QX (fun ρ w=>b13 R C8 (ρ 0) (ρ 4) (ρ 6) (ρ 7) w) (fun ρ w=>R (.returned (.tuple #[])) w) [(4,(fun ρ w=>C8  w)),(2,(fun ρ w=>b6 R (ρ 0) (ρ 6) w))]
theorem b15_ok (R:EP) (C8:World→Prop) (ρ:Env) (w:World) (h:b15 R C8 (ρ 0) (ρ 4) (ρ 6) (ρ 7) (ρ 86) w):cP1 R p7 (q3 R C8) ρ w:=cast (by kernel_rfl) h
def b14_1 (C8:World→Prop) (x0 x4 x6 x7:Value) (w11:World) (_r:Tok R:=tok R) (_C8:Tok C8:=tok C8):Prop :=
 NILC x0 fun v12 =>
 RUN prog (pan R) (Instr.fieldAt 87 v12 3) w11 fun v13 w14 =>
 RUN prog (pan R) (Instr.loadAt 82 v13) w14 fun v15 w16 =>
 RUN prog (pan R) (Instr.lookup 82 v15 x7 false) w16 fun v17 w18 =>
 RUN prog (pan R) (bins .gtr 3 (.tmp 83) (.const (.int .i64 0)) v17 (.int .i64 0)) w18 fun v19 w20 =>
 b15 R C8 x0 x4 x6 x7 v19 w20

def b14 (C8:World→Prop) (x0 x4 x6 x7:Value) (w:World) (_r:Tok R:=tok R) (_C8:Tok C8:=tok C8):Prop :=
 NILC x0 fun v1 =>
 RUN prog (pan R) (Instr.fieldAt 87 v1 3) w fun v2 w3 =>
 RUN prog (pan R) (Instr.loadAt 82 v2) w3 fun v4 w5 =>
 RUN prog (pan R) (Instr.lookup 82 v4 x7 false) w5 fun v6 w7 =>
 RUN prog (pan R) (bins .eql 3 (.tmp 72) (.const (.int .i64 2)) v6 (.int .i64 2)) w7 fun v8 w9 =>
 SPL v8
 (b15 R C8 x0 x4 x6 x7 (.bool Bool.true) w9)
 (RUN prog (pan R) (bins .eql 3 (.tmp 75) (.const (.int .i64 0)) x4 (.int .i64 0)) w9 fun v10 w11 =>
 SPL v10
 (b14_1 R C8 x0 x4 x6 x7 w11)
 (b15 R C8 x0 x4 x6 x7 (.bool Bool.false) w11))
abbrev q4 (C8:World→Prop):XP:=QX (fun ρ w=>b15 R C8 (ρ 0) (ρ 4) (ρ 6) (ρ 7) (ρ 86) w) (fun ρ w=>R (.returned (.tuple #[])) w) [(4,(fun ρ w=>C8  w)),(2,(fun ρ w=>b6 R (ρ 0) (ρ 6) w))]
theorem b14_eq (R:EP) (C8:World→Prop) (ρ:Env) (w:World):(b14 R C8 (ρ 0) (ρ 4) (ρ 6) (ρ 7) w)=cP1 R (preC 0 (fstC p6)) (q4 R C8) ρ w:=by kernel_rfl
theorem b14_ok (R:EP) (C8:World→Prop) (ρ:Env) (w:World) (h:b14 R C8 (ρ 0) (ρ 4) (ρ 6) (ρ 7) w):cP1 R (fstC p6) (q3 R C8) ρ w:=by
 have e:appC 0 (preC 0 (fstC p6)) (dropC 1 (fstC p6))=(fstC p6):=by kernel_rfl
 rw [←e]
 exact appQ (fun ρ w=>b15 R C8 (ρ 0) (ρ 4) (ρ 6) (ρ 7) (ρ 86) w) 0 ((b14_eq R C8 ρ w).mp h) (fun ρ w h=>b15_ok R C8 ρ w h)
theorem k12_ok (R:EP) (C8:World→Prop) (ρ:Env) (w:World) (h:b14 R C8 (ρ 0) (ρ 4) (ρ 6) (ρ 7) w):cP1 R p6 (q2 R C8) ρ w:=by
 have e:Code.seq (fstC p6) (sndC p6)=p6:=by kernel_rfl
 rw [←e]
 exact seqQ (fun ρ w=>b13 R C8 (ρ 0) (ρ 4) (ρ 6) (ρ 7) w) (b14_ok R C8 ρ w h) (fun ρ w h=>b13_ok R C8 ρ w h)

def b11 (C8:World→Prop) (x0 x4 x6:Value) (w:World) (_r:Tok R:=tok R) (_C8:Tok C8:=tok C8):Prop :=
 CALL prog (pan R) spec_reader_now.id #[x0] w fun v1 w2 =>
 RUN prog (pan R) (Instr.field 91 v1 1) w2 fun v3 w4 =>
 b14 R C8 x0 x4 x6 v3 w4
abbrev q5 (C8:World→Prop):XP:=QX (fun ρ w=>b14 R C8 (ρ 0) (ρ 4) (ρ 6) (ρ 7) w) (fun ρ w=>R (.returned (.tuple #[])) w) [(4,(fun ρ w=>C8  w)),(2,(fun ρ w=>b6 R (ρ 0) (ρ 6) w))]
theorem b11_eq (R:EP) (C8:World→Prop) (ρ:Env) (w:World):(b11 R C8 (ρ 0) (ρ 4) (ρ 6) w)=cP1 R (preC 0 (blkC p5)) (q5 R C8) ρ w:=by kernel_rfl
theorem b11_ok (R:EP) (C8:World→Prop) (ρ:Env) (w:World) (h:b11 R C8 (ρ 0) (ρ 4) (ρ 6) w):cP1 R (blkC p5) (q2 R C8) ρ w:=by
 have e:appC 0 (preC 0 (blkC p5)) (dropC 1 (blkC p5))=(blkC p5):=by kernel_rfl
 rw [←e]
 exact appQ (fun ρ w=>b14 R C8 (ρ 0) (ρ 4) (ρ 6) (ρ 7) w) 0 ((b11_eq R C8 ρ w).mp h) (fun ρ w h=>k12_ok R C8 ρ w h)
abbrev q6 (C8:World→Prop):XP:=QX (fun ρ w=>C8  w) (fun ρ w=>R (.returned (.tuple #[])) w) [(2,(fun ρ w=>b6 R (ρ 0) (ρ 6) w))]
theorem k10_ok (R:EP) (C8:World→Prop) (ρ:Env) (w:World) (h:b11 R C8 (ρ 0) (ρ 4) (ρ 6) w):cP1 R p5 (q6 R C8) ρ w:=by
 have e:Code.block 2 (blkC p5)=p5:=by kernel_rfl
 rw [←e]
 exact blockQ (b11_ok R C8 ρ w h)

def b9 (C8:World→Prop) (x0 x4 x6:Value) (w:World) (_r:Tok R:=tok R) (_C8:Tok C8:=tok C8):Prop :=
 CALL prog (pan R) spec_reader_isT.id #[x0] w fun v1 w2 =>
 SPL v1
 (b11 R C8 x0 x4 x6 w2)
 (b6 R x0 x6 w2)
abbrev q7 (C8:World→Prop):XP:=QX (fun ρ w=>b11 R C8 (ρ 0) (ρ 4) (ρ 6) w) (fun ρ w=>R (.returned (.tuple #[])) w) [(2,(fun ρ w=>b6 R (ρ 0) (ρ 6) w))]
theorem b9_eq (R:EP) (C8:World→Prop) (ρ:Env) (w:World):(b9 R C8 (ρ 0) (ρ 4) (ρ 6) w)=cP1 R (preC 0 (loopC p4)) (q7 R C8) ρ w:=by kernel_rfl
theorem b9_ok (R:EP) (C8:World→Prop) (ρ:Env) (w:World) (h:b9 R C8 (ρ 0) (ρ 4) (ρ 6) w):cP1 R (loopC p4) (q6 R C8) ρ w:=by
 have e:appC 0 (preC 0 (loopC p4)) (dropC 1 (loopC p4))=(loopC p4):=by kernel_rfl
 rw [←e]
 exact appQ (fun ρ w=>b11 R C8 (ρ 0) (ρ 4) (ρ 6) w) 0 ((b9_eq R C8 ρ w).mp h) (fun ρ w h=>k10_ok R C8 ρ w h)

def l8 (x0 x4 x6:Value) (w:World) (_r:Tok R:=tok R):Prop :=
 ∃(J:World→Prop) (μ:World→Nat),J  w∧∀w0,J  w0→b9 R (fun  w1=>J  w1∧μ  w1<μ  w0) x0 x4 x6 w0
abbrev q8:XP:=QX (fun ρ w=>b6 R (ρ 0) (ρ 6) w) (fun ρ w=>R (.returned (.tuple #[])) w) [(2,(fun ρ w=>b6 R (ρ 0) (ρ 6) w))]
theorem l8_ok (h:l8 R (ρ 0) (ρ 4) (ρ 6) w):cP1 R p4 (q8 R) ρ w:=by
 unfold l8 at h
 obtain ⟨J,μ,h0,hr⟩:=h
 have e:Code.loop (loopC p4)=p4:=by kernel_rfl
 rw [←e]
 refine loopQ (fun ρ' w'=>J  w') (fun ρ' w'=>μ  w') h0 fun ρ' w' hA hI=>?_
 have e0:ρ' 0=ρ 0:=Agree.at hA 0 (by kernel_rfl)
 have e4:ρ' 4=ρ 4:=Agree.at hA 4 (by kernel_rfl)
 have e6:ρ' 6=ρ 6:=Agree.at hA 6 (by kernel_rfl)
 have h1:=hr  w' hI
 rw [←e0,←e4,←e6] at h1
 exact b9_ok R (fun  w1=>J  w1∧μ  w1<μ  w') ρ' w' h1
theorem l8_intro (R:EP) (x0 x4 x6:Value) (w:World) (J:World→Prop) (μ:World→Nat) (h0:J  w)
  (hr:∀w0,J  w0→∀C8:World→Prop,(∀w1,J  w1→μ  w1<μ  w0→C8  w1)→b9 R C8 x0 x4 x6 w0):l8 R x0 x4 x6 w:=by
 unfold l8
 exact ⟨J,μ,h0,fun  w0 hJ=>hr  w0 hJ _ (fun  w1 h1 h2=>⟨h1,h2⟩)⟩
abbrev q9:XP:=QX (fun ρ w=>b6 R (ρ 0) (ρ 6) w) (fun ρ w=>R (.returned (.tuple #[])) w) []
theorem k7_ok (h:l8 R (ρ 0) (ρ 4) (ρ 6) w):cP1 R (fstC p3) (q9 R) ρ w:=by
 have e:Code.block 1 (blkC (fstC p3))=(fstC p3):=by kernel_rfl
 rw [←e]
 exact blockQ (l8_ok R ρ w h)
theorem k5_ok (h:l8 R (ρ 0) (ρ 4) (ρ 6) w):cP1 R p3 (q1 R) ρ w:=by
 have e:Code.seq (fstC p3) (sndC p3)=p3:=by kernel_rfl
 rw [←e]
 exact seqQ (fun ρ w=>b6 R (ρ 0) (ρ 6) w) (k7_ok R ρ w h) (fun ρ w h=>b6_ok R ρ w h)

def b4 (x0 x4:Value) (w:World) (_r:Tok R:=tok R):Prop :=
 RUN prog (pan R) (Instr.build 106 #[(0,x4)]) w fun v1 w2 =>
 RUN prog (pan R) (Instr.alloc 106 true (.tuple #[])) w2 fun v3 w4 =>
 RUNU prog (pan R) (Instr.storeAt 106 v3 v1) w4 fun w5 =>
 l8 R x0 x4 v3 w5
abbrev q10:XP:=QX (fun ρ w=>l8 R (ρ 0) (ρ 4) (ρ 6) w) (fun ρ w=>R (.returned (.tuple #[])) w) []
theorem b4_eq:(b4 R (ρ 0) (ρ 4) w)=cP1 R (preC 0 p2) (q10 R) ρ w:=by kernel_rfl
theorem b4_ok (h:b4 R (ρ 0) (ρ 4) w):cP1 R p2 (q1 R) ρ w:=by
 have e:appC 0 (preC 0 p2) (dropC 1 p2)=p2:=by kernel_rfl
 rw [←e]
 exact appQ (fun ρ w=>l8 R (ρ 0) (ρ 4) (ρ 6) w) 0 ((b4_eq R ρ w).mp h) (fun ρ w h=>k5_ok R ρ w h)
def b3_1 (x0 x4 v12:Value) (w13:World) (_r:Tok R:=tok R):Prop :=
 RUN prog (pan R) (Op.unary .not v12) w13 fun v14 w15 =>
 SPL v14
 (CALL prog (pan R) spec_reader_fail.id #[x0] w15 fun v16 w17 =>
 b4 R x0 x4 w17)
 (b4 R x0 x4 w15)

def b3 (x0 x4:Value) (w:World) (_r:Tok R:=tok R):Prop :=
 NILC x0 fun v1 =>
 RUN prog (pan R) (Instr.fieldAt 87 v1 1) w fun v2 w3 =>
 RUN prog (pan R) (Instr.loadAt 3 v2) w3 fun v4 w5 =>
 RUN prog (pan R) (bins .add 3 (.tmp 51) (.const (.int .i64 1)) v4 (.int .i64 1)) w5 fun v6 w7 =>
 NILC x0 fun v8 =>
 RUN prog (pan R) (Instr.fieldAt 87 v8 1) w7 fun v9 w10 =>
 RUNU prog (pan R) (Instr.storeAt 3 v9 v6) w10 fun w11 =>
 CALL prog (pan R) spec_reader_isT.id #[x0] w11 fun v12 w13 =>
 b3_1 R x0 x4 v12 w13
abbrev q11:XP:=QX (fun ρ w=>b4 R (ρ 0) (ρ 4) w) (fun ρ w=>R (.returned (.tuple #[])) w) []
theorem b3_eq:(b3 R (ρ 0) (ρ 4) w)=cP1 R (preC 1 (sndC p1)) (q11 R) ρ w:=by kernel_rfl
theorem b3_ok (h:b3 R (ρ 0) (ρ 4) w):cP1 R (sndC p1) (q1 R) ρ w:=by
 have e:appC 1 (preC 1 (sndC p1)) (dropC 2 (sndC p1))=(sndC p1):=by kernel_rfl
 rw [←e]
 exact appQ (fun ρ w=>b4 R (ρ 0) (ρ 4) w) 1 ((b3_eq R ρ w).mp h) (fun ρ w h=>b4_ok R ρ w h)
noncomputable abbrev p8:Code:=blkC (fstC p1)
noncomputable abbrev p9:Code:=dropC 1 p8
def b18_1 (x0 v12:Value) (w13:World) (_r:Tok R:=tok R):Prop :=
 NILC x0 fun v14 =>
 RUN prog (pan R) (Instr.fieldAt 87 v14 5) w13 fun v15 w16 =>
 RUNU prog (pan R) (Instr.storeAt 9 v15 v12) w16 fun w17 =>
 CALL prog (pan R) spec_reader_need.id #[x0,(.string {data:=#[59] })] w17 fun v18 w19 =>
 R (.returned (.tuple #[])) w19
def b18_2 (x0:Value) (w:World) (_r:Tok R:=tok R):Prop :=
 NILC x0 fun v1 =>
 RUN prog (pan R) (Instr.fieldAt 87 v1 1) w fun v2 w3 =>
 RUN prog (pan R) (Instr.loadAt 3 v2) w3 fun v4 w5 =>
 RUN prog (pan R) (bins .add 3 (.tmp 32) (.const (.int .i64 1)) v4 (.int .i64 1)) w5 fun v6 w7 =>
 NILC x0 fun v8 =>
 RUN prog (pan R) (Instr.fieldAt 87 v8 1) w7 fun v9 w10 =>
 RUNU prog (pan R) (Instr.storeAt 3 v9 v6) w10 fun w11 =>
 CALL prog (pan R) spec_reader_name.id #[x0] w11 fun v12 w13 =>
 b18_1 R x0 v12 w13
def b18_3 (x0 x4 x5:Value) (w:World) (_r:Tok R:=tok R):Prop :=
 RUN prog (pan R) (Op.unary .not x5) w fun v20 w21 =>
 SPL v20
 (CALL prog (pan R) spec_reader_fail.id #[x0] w21 fun v22 w23 =>
 b3 R x0 x4 w23)
 (b3 R x0 x4 w21)

def b18 (x0 x4 x5 x19:Value) (w:World) (_r:Tok R:=tok R):Prop :=
 SPL x19
 (b18_2 R x0 w)
 (b18_3 R x0 x4 x5 w)
abbrev q12:XP:=QX (fun ρ w=>b3 R (ρ 0) (ρ 4) w) (fun ρ w=>R (.returned (.tuple #[])) w) [(0,(fun ρ w=>b3 R (ρ 0) (ρ 4) w))]
theorem b18_ok (h:b18 R (ρ 0) (ρ 4) (ρ 5) (ρ 19) w):cP1 R p9 (q12 R) ρ w:=cast (by kernel_rfl) h
def b17_1 (x0 x4 x5:Value) (w2:World) (_r:Tok R:=tok R):Prop :=
 NILC x0 fun v3 =>
 RUN prog (pan R) (Instr.fieldAt 87 v3 5) w2 fun v4 w5 =>
 RUN prog (pan R) (Instr.loadAt 9 v4) w5 fun v6 w7 =>
 RUN prog (pan R) (bins .eql 9 (.tmp 26) (.const (.string {data:=#[] })) v6 (.string {data:=#[] })) w7 fun v8 w9 =>
 b18 R x0 x4 x5 v8 w9

def b17 (x0 x3 x4 x5:Value) (w:World) (_r:Tok R:=tok R):Prop :=
 RUN prog (pan R) (bins .eql 9 (.tmp 20) (.const (.string {data:=#[37,115,116,97,114,116] })) x3 (.string {data:=#[37,115,116,97,114,116] })) w fun v1 w2 =>
 SPL v1
 (b17_1 R x0 x4 x5 w2)
 (b18 R x0 x4 x5 (.bool Bool.false) w2)
abbrev q13:XP:=QX (fun ρ w=>b18 R (ρ 0) (ρ 4) (ρ 5) (ρ 19) w) (fun ρ w=>R (.returned (.tuple #[])) w) [(0,(fun ρ w=>b3 R (ρ 0) (ρ 4) w))]
theorem b17_eq:(b17 R (ρ 0) (ρ 3) (ρ 4) (ρ 5) w)=cP1 R (preC 0 p8) (q13 R) ρ w:=by kernel_rfl
theorem b17_ok (h:b17 R (ρ 0) (ρ 3) (ρ 4) (ρ 5) w):cP1 R p8 (q12 R) ρ w:=by
 have e:appC 0 (preC 0 p8) (dropC 1 p8)=p8:=by kernel_rfl
 rw [←e]
 exact appQ (fun ρ w=>b18 R (ρ 0) (ρ 4) (ρ 5) (ρ 19) w) 0 ((b17_eq R ρ w).mp h) (fun ρ w h=>b18_ok R ρ w h)
abbrev q14:XP:=QX (fun ρ w=>b3 R (ρ 0) (ρ 4) w) (fun ρ w=>R (.returned (.tuple #[])) w) []
theorem k16_ok (h:b17 R (ρ 0) (ρ 3) (ρ 4) (ρ 5) w):cP1 R (fstC p1) (q14 R) ρ w:=by
 have e:Code.block 0 (blkC (fstC p1))=(fstC p1):=by kernel_rfl
 rw [←e]
 exact blockQ (b17_ok R ρ w h)
theorem k2_ok (h:b17 R (ρ 0) (ρ 3) (ρ 4) (ρ 5) w):cP1 R p1 (q1 R) ρ w:=by
 have e:Code.seq (fstC p1) (sndC p1)=p1:=by kernel_rfl
 rw [←e]
 exact seqQ (fun ρ w=>b3 R (ρ 0) (ρ 4) w) (k16_ok R ρ w h) (fun ρ w h=>b3_ok R ρ w h)
def b1_1 (x0 v1 v7:Value) (w8:World) (_r:Tok R:=tok R):Prop :=
 RUN prog (pan R) (Instr.field 91 v7 1) w8 fun v9 w10 =>
 RUN prog (pan R) (Instr.lookup 82 v1 v9 true) w10 fun v11 w12 =>
 RUN prog (pan R) (Instr.extract v11 0) w12 fun v13 w14 =>
 RUN prog (pan R) (Instr.extract v11 1) w14 fun v15 w16 =>
 b17 R x0 v9 v13 v15 w16

def b1 (x0:Value) (w:World) (_r:Tok R:=tok R):Prop :=
 RUN prog (pan R) (Instr.makeMap 82 none) w fun v1 w2 =>
 RUNU prog (pan R) (Instr.mapUpdate 82 v1 (.string {data:=#[37,116,111,107,101,110] }) (.int .i64 0)) w2 fun w3 =>
 RUNU prog (pan R) (Instr.mapUpdate 82 v1 (.string {data:=#[37,108,101,102,116] }) (.int .i64 1)) w3 fun w4 =>
 RUNU prog (pan R) (Instr.mapUpdate 82 v1 (.string {data:=#[37,114,105,103,104,116] }) (.int .i64 2)) w4 fun w5 =>
 RUNU prog (pan R) (Instr.mapUpdate 82 v1 (.string {data:=#[37,110,111,110,97,115,115,111,99] }) (.int .i64 3)) w5 fun w6 =>
 CALL prog (pan R) spec_reader_now.id #[x0] w6 fun v7 w8 =>
 b1_1 R x0 v1 v7 w8
abbrev q15:XP:=QX (fun ρ w=>b17 R (ρ 0) (ρ 3) (ρ 4) (ρ 5) w) (fun ρ w=>R (.returned (.tuple #[])) w) []
theorem b1_eq:(b1 R (ρ 0) w)=cP1 R (preC 2 code) (q15 R) ρ w:=by kernel_rfl
theorem b1_ok (h:b1 R (ρ 0) w):cP1 R code (q1 R) ρ w:=by
 have e:appC 2 (preC 2 code) (dropC 3 code)=code:=by kernel_rfl
 rw [←e]
 exact appQ (fun ρ w=>b17 R (ρ 0) (ρ 3) (ρ 4) (ρ 5) w) 2 ((b1_eq R ρ w).mp h) (fun ρ w h=>k2_ok R ρ w h)
/-- What is owed for a call. -/
def run (a0:Value) (w:World):Prop:=b1 R a0 w
theorem calls (R:EP) (a0:Value) (w:World) (h:run R a0 w):Calls prog id #[a0] w R :=
 calls_of_0 (f:=id) (fn:=f74) (c:=code) (by kernel_rfl) func74 (by kernel_rfl) (by kernel_rfl) (args:=[a0]) (Nat.le_of_ble_eq_true rfl) rfl (b1_ok R (envOf [a0]) w h)
theorem enters:Enters prog id:=fun args w=>call74 args w
theorem ct {a0:Value} {w:World} {S:VP} (h:∀R:EP,(∀v w,S v w→R (.returned v) w)→run R a0 w):Ct prog id #[a0] w S :=
 Ct.intro enters fun R hR=>calls R a0 w (h R hR)
attribute [irreducible] b6_1 b6 b13 b15 b14_1 b14 b11 b9 l8 b4 b3_1 b3 b18_1 b18_2 b18_3 b18 b17_1 b17 b1_1 b1 run
attribute [go_sem] b6_1 b6 b13 b15 b14_1 b14 b11 b9 b4 b3_1 b3 b18_1 b18_2 b18_3 b18 b17_1 b17 b1_1 b1 run
end spec_reader_header

/-! ### (*presage/spec.reader).rule -/
namespace spec_reader_rule
noncomputable def code:Code:=bodyOf f75
noncomputable abbrev p1:Code:=dropC 3 code

def b3 (x0:Value) (w:World) (_r:Tok R:=tok R):Prop :=
 CALL prog (pan R) spec_reader_need.id #[x0,(.string {data:=#[59] })] w fun v1 w2 =>
 R (.returned (.tuple #[])) w2
abbrev q1:XP:=QX (fun ρ w=>R (.returned (.tuple #[])) w) (fun ρ w=>R (.returned (.tuple #[])) w) []
theorem b3_ok (h:b3 R (ρ 0) w):cP1 R (sndC p1) (q1 R) ρ w:=cast (by kernel_rfl) h
noncomputable abbrev p2:Code:=blkC (fstC p1)
noncomputable abbrev p3:Code:=blkC (loopC p2)
noncomputable abbrev p4:Code:=dropC 1 p3
noncomputable abbrev p5:Code:=sndC (sndC p4)
def b10_1 (C5:World→Prop) (x0:Value) (w15:World) (_r:Tok R:=tok R) (_C5:Tok C5:=tok C5):Prop :=
 NILC x0 fun v16 =>
 RUN prog (pan R) (Instr.fieldAt 87 v16 1) w15 fun v17 w18 =>
 RUN prog (pan R) (Instr.loadAt 3 v17) w18 fun v19 w20 =>
 RUN prog (pan R) (bins .add 3 (.tmp 84) (.const (.int .i64 1)) v19 (.int .i64 1)) w20 fun v21 w22 =>
 NILC x0 fun v23 =>
 RUN prog (pan R) (Instr.fieldAt 87 v23 1) w22 fun v24 w25 =>
 RUNU prog (pan R) (Instr.storeAt 3 v24 v21) w25 fun w26 =>
 C5  w26

def b10 (C5:World→Prop) (x0 x3:Value) (w:World) (_r:Tok R:=tok R) (_C5:Tok C5:=tok C5):Prop :=
 NILC x0 fun v1 =>
 PUR prog (Instr.fieldAt 87 v1 7) fun v2 =>
 LD prog (Instr.loadAt 85 v2) (World.drew w) fun v3 =>
 LD prog (Instr.loadAt 112 x3) (World.drew w) fun v4 =>
 RUN prog (pan R) (Instr.buildSlice 85 1 #[(0,v4)]) (World.drew w) fun v5 w6 =>
 Sem.run prog (Instr.loadAt 85 v2) w6 = .ok v3 w6∧(RUN prog (pan R) (Builtin.append_ #[85,85] 85 #[v3,v5]) w6 fun v7 w8 =>
 NILC x0 fun v9 =>
 PUR prog (Instr.fieldAt 87 v9 7) fun v10 =>
 RUNU prog (pan R) (Instr.storeAt 85 v10 v7) w8 fun w11 =>
 CALL prog (pan R) spec_reader_is.id #[x0,(.int .i64 4),(.string {data:=#[124] })] w11 fun v12 w13 =>
 RUN prog (pan R) (Op.unary .not v12) w13 fun v14 w15 =>
 SPL v14
 (b3 R x0 w15)
 (b10_1 R C5 x0 w15))
abbrev q2 (C5:World→Prop):XP:=QX (fun ρ w=>C5  w) (fun ρ w=>R (.returned (.tuple #[])) w) [(2,(fun ρ w=>C5  w)),(0,(fun ρ w=>b3 R (ρ 0) w))]
theorem b10_ok (R:EP) (C5:World→Prop) (ρ:Env) (w:World) (h:b10 R C5 (ρ 0) (ρ 3) w):cP1 R p5 (q2 R C5) ρ w:=cast (by kernel_rfl) h
noncomputable abbrev p6:Code:=fstC (sndC p4)
noncomputable abbrev p7:Code:=dropC 1 p6

def b13 (C5:World→Prop) (x0 x3:Value) (w:World) (_r:Tok R:=tok R) (_C5:Tok C5:=tok C5):Prop :=
 RUN prog (pan R) (Instr.fieldAt 112 x3 3) w fun v1 w2 =>
 RUNU prog (pan R) (Instr.storeAt 4 v1 (.bool Bool.true)) w2 fun w3 =>
 NILC x0 fun v4 =>
 RUN prog (pan R) (Instr.fieldAt 87 v4 1) w3 fun v5 w6 =>
 RUN prog (pan R) (Instr.loadAt 3 v5) w6 fun v7 w8 =>
 RUN prog (pan R) (bins .add 3 (.tmp 39) (.const (.int .i64 1)) v7 (.int .i64 1)) w8 fun v9 w10 =>
 NILC x0 fun v11 =>
 RUN prog (pan R) (Instr.fieldAt 87 v11 1) w10 fun v12 w13 =>
 RUNU prog (pan R) (Instr.storeAt 3 v12 v9) w13 fun w14 =>
 b10 R C5 x0 x3 w14
abbrev q3 (C5:World→Prop):XP:=QX (fun ρ w=>b10 R C5 (ρ 0) (ρ 3) w) (fun ρ w=>R (.returned (.tuple #[])) w) [(2,(fun ρ w=>C5  w)),(0,(fun ρ w=>b3 R (ρ 0) w))]
theorem b13_ok (R:EP) (C5:World→Prop) (ρ:Env) (w:World) (h:b13 R C5 (ρ 0) (ρ 3) w):cP1 R (thnC p7) (q3 R C5) ρ w:=cast (by kernel_rfl) h
noncomputable abbrev p8:Code:=dropC 1 (elsC p7)
noncomputable abbrev p9:Code:=dropC 2 (thnC p8)
def b17_1 (C5:World→Prop) (x0 x3 v1:Value) (w2:World) (_r:Tok R:=tok R) (_C5:Tok C5:=tok C5):Prop :=
 RUN prog (pan R) (Instr.field 91 v1 1) w2 fun v3 w4 =>
 RUN prog (pan R) (Instr.fieldAt 112 x3 2) w4 fun v5 w6 =>
 RUNU prog (pan R) (Instr.storeAt 9 v5 v3) w6 fun w7 =>
 NILC x0 fun v8 =>
 RUN prog (pan R) (Instr.fieldAt 87 v8 1) w7 fun v9 w10 =>
 RUN prog (pan R) (Instr.loadAt 3 v9) w10 fun v11 w12 =>
 RUN prog (pan R) (bins .add 3 (.tmp 64) (.const (.int .i64 1)) v11 (.int .i64 1)) w12 fun v13 w14 =>
 NILC x0 fun v15 =>
 RUN prog (pan R) (Instr.fieldAt 87 v15 1) w14 fun v16 w17 =>
 RUNU prog (pan R) (Instr.storeAt 3 v16 v13) w17 fun w18 =>
 b10 R C5 x0 x3 w18

def b17 (C5:World→Prop) (x0 x3:Value) (w:World) (_r:Tok R:=tok R) (_C5:Tok C5:=tok C5):Prop :=
 CALL prog (pan R) spec_reader_now.id #[x0] w fun v1 w2 =>
 b17_1 R C5 x0 x3 v1 w2
theorem b17_ok (R:EP) (C5:World→Prop) (ρ:Env) (w:World) (h:b17 R C5 (ρ 0) (ρ 3) w):cP1 R p9 (q3 R C5) ρ w:=cast (by kernel_rfl) h
def b16_1 (C5:World→Prop) (x0 x3 v12:Value) (w13:World) (_r:Tok R:=tok R) (_C5:Tok C5:=tok C5):Prop :=
 RUN prog (pan R) (Op.unary .not v12) w13 fun v14 w15 =>
 SPL v14
 (CALL prog (pan R) spec_reader_fail.id #[x0] w15 fun v16 w17 =>
 b17 R C5 x0 x3 w17)
 (b17 R C5 x0 x3 w15)

def b16 (C5:World→Prop) (x0 x3:Value) (w:World) (_r:Tok R:=tok R) (_C5:Tok C5:=tok C5):Prop :=
 NILC x0 fun v1 =>
 RUN prog (pan R) (Instr.fieldAt 87 v1 1) w fun v2 w3 =>
 RUN prog (pan R) (Instr.loadAt 3 v2) w3 fun v4 w5 =>
 RUN prog (pan R) (bins .add 3 (.tmp 48) (.const (.int .i64 1)) v4 (.int .i64 1)) w5 fun v6 w7 =>
 NILC x0 fun v8 =>
 RUN prog (pan R) (Instr.fieldAt 87 v8 1) w7 fun v9 w10 =>
 RUNU prog (pan R) (Instr.storeAt 3 v9 v6) w10 fun w11 =>
 CALL prog (pan R) spec_reader_isT.id #[x0] w11 fun v12 w13 =>
 b16_1 R C5 x0 x3 v12 w13
abbrev q4 (C5:World→Prop):XP:=QX (fun ρ w=>b17 R C5 (ρ 0) (ρ 3) w) (fun ρ w=>R (.returned (.tuple #[])) w) [(2,(fun ρ w=>C5  w)),(0,(fun ρ w=>b3 R (ρ 0) w))]
theorem b16_eq (R:EP) (C5:World→Prop) (ρ:Env) (w:World):(b16 R C5 (ρ 0) (ρ 3) w)=cP1 R (preC 1 (thnC p8)) (q4 R C5) ρ w:=by kernel_rfl
theorem b16_ok (R:EP) (C5:World→Prop) (ρ:Env) (w:World) (h:b16 R C5 (ρ 0) (ρ 3) w):cP1 R (thnC p8) (q3 R C5) ρ w:=by
 have e:appC 1 (preC 1 (thnC p8)) (dropC 2 (thnC p8))=(thnC p8):=by kernel_rfl
 rw [←e]
 exact appQ (fun ρ w=>b17 R C5 (ρ 0) (ρ 3) w) 1 ((b16_eq R C5 ρ w).mp h) (fun ρ w h=>b17_ok R C5 ρ w h)

def b18 (C5:World→Prop) (x0 x3:Value) (w:World) (_r:Tok R:=tok R) (_C5:Tok C5:=tok C5):Prop :=
 b10 R C5 x0 x3 w
theorem b18_ok (R:EP) (C5:World→Prop) (ρ:Env) (w:World) (h:b18 R C5 (ρ 0) (ρ 3) w):cP1 R (elsC p8) (q3 R C5) ρ w:=cast (by kernel_rfl) h

def b15 (C5:World→Prop) (x0 x3 x44:Value) (w:World) (_r:Tok R:=tok R) (_C5:Tok C5:=tok C5):Prop :=
 SPL x44 (b16 R C5 x0 x3 w) (b18 R C5 x0 x3 w)
theorem b15_ok (R:EP) (C5:World→Prop) (ρ:Env) (w:World) (h:b15 R C5 (ρ 0) (ρ 3) (ρ 44) w):cP1 R p8 (q3 R C5) ρ w:=by
 have e:Code.cond (.tmp 44) (thnC p8) (elsC p8)=p8:=by kernel_rfl
 rw [←e]
 exact condQ' h (fun h=>b16_ok R C5 ρ w h) (fun h=>b18_ok R C5 ρ w h)

def b14 (C5:World→Prop) (x0 x3:Value) (w:World) (_r:Tok R:=tok R) (_C5:Tok C5:=tok C5):Prop :=
 CALL prog (pan R) spec_reader_is.id #[x0,(.int .i64 3),(.string {data:=#[37,112,114,101,99] })] w fun v1 w2 =>
 b15 R C5 x0 x3 v1 w2
abbrev q5 (C5:World→Prop):XP:=QX (fun ρ w=>b15 R C5 (ρ 0) (ρ 3) (ρ 44) w) (fun ρ w=>R (.returned (.tuple #[])) w) [(2,(fun ρ w=>C5  w)),(0,(fun ρ w=>b3 R (ρ 0) w))]
theorem b14_eq (R:EP) (C5:World→Prop) (ρ:Env) (w:World):(b14 R C5 (ρ 0) (ρ 3) w)=cP1 R (preC 0 (elsC p7)) (q5 R C5) ρ w:=by kernel_rfl
theorem b14_ok (R:EP) (C5:World→Prop) (ρ:Env) (w:World) (h:b14 R C5 (ρ 0) (ρ 3) w):cP1 R (elsC p7) (q3 R C5) ρ w:=by
 have e:appC 0 (preC 0 (elsC p7)) (dropC 1 (elsC p7))=(elsC p7):=by kernel_rfl
 rw [←e]
 exact appQ (fun ρ w=>b15 R C5 (ρ 0) (ρ 3) (ρ 44) w) 0 ((b14_eq R C5 ρ w).mp h) (fun ρ w h=>b15_ok R C5 ρ w h)

def b12 (C5:World→Prop) (x0 x3 x34:Value) (w:World) (_r:Tok R:=tok R) (_C5:Tok C5:=tok C5):Prop :=
 SPL x34 (b13 R C5 x0 x3 w) (b14 R C5 x0 x3 w)
theorem b12_ok (R:EP) (C5:World→Prop) (ρ:Env) (w:World) (h:b12 R C5 (ρ 0) (ρ 3) (ρ 34) w):cP1 R p7 (q3 R C5) ρ w:=by
 have e:Code.cond (.tmp 34) (thnC p7) (elsC p7)=p7:=by kernel_rfl
 rw [←e]
 exact condQ' h (fun h=>b13_ok R C5 ρ w h) (fun h=>b14_ok R C5 ρ w h)

def b11 (C5:World→Prop) (x0 x3:Value) (w:World) (_r:Tok R:=tok R) (_C5:Tok C5:=tok C5):Prop :=
 CALL prog (pan R) spec_reader_is.id #[x0,(.int .i64 3),(.string {data:=#[37,110,111,110,101] })] w fun v1 w2 =>
 b12 R C5 x0 x3 v1 w2
abbrev q6 (C5:World→Prop):XP:=QX (fun ρ w=>b12 R C5 (ρ 0) (ρ 3) (ρ 34) w) (fun ρ w=>R (.returned (.tuple #[])) w) [(2,(fun ρ w=>C5  w)),(0,(fun ρ w=>b3 R (ρ 0) w))]
theorem b11_eq (R:EP) (C5:World→Prop) (ρ:Env) (w:World):(b11 R C5 (ρ 0) (ρ 3) w)=cP1 R (preC 0 p6) (q6 R C5) ρ w:=by kernel_rfl
theorem b11_ok (R:EP) (C5:World→Prop) (ρ:Env) (w:World) (h:b11 R C5 (ρ 0) (ρ 3) w):cP1 R p6 (q3 R C5) ρ w:=by
 have e:appC 0 (preC 0 p6) (dropC 1 p6)=p6:=by kernel_rfl
 rw [←e]
 exact appQ (fun ρ w=>b12 R C5 (ρ 0) (ρ 3) (ρ 34) w) 0 ((b11_eq R C5 ρ w).mp h) (fun ρ w h=>b12_ok R C5 ρ w h)
theorem k9_ok (R:EP) (C5:World→Prop) (ρ:Env) (w:World) (h:b11 R C5 (ρ 0) (ρ 3) w):cP1 R (sndC p4) (q2 R C5) ρ w:=by
 have e:Code.seq (fstC (sndC p4)) (sndC (sndC p4))=(sndC p4):=by kernel_rfl
 rw [←e]
 exact seqQ (fun ρ w=>b10 R C5 (ρ 0) (ρ 3) w) (b11_ok R C5 ρ w h) (fun ρ w h=>b10_ok R C5 ρ w h)
noncomputable abbrev p10:Code:=blkC (fstC p4)
def b21_1 (C20:World→Prop) (x0 x3 v3 v4 v5:Value) (w6:World) (_r:Tok R:=tok R) (_C20:Tok C20:=tok C20):Prop :=
 Sem.run prog (Instr.loadAt 83 v3) w6 = .ok v4 w6∧(RUN prog (pan R) (Instr.buildSlice 83 1 #[(0,v5)]) w6 fun v7 w8 =>
 Sem.run prog (Instr.loadAt 83 v3) w8 = .ok v4 w8∧(RUN prog (pan R) (Builtin.append_ #[83,83] 83 #[v4,v7]) w8 fun v9 w10 =>
 PUR prog (Instr.fieldAt 112 x3 1) fun v11 =>
 RUNU prog (pan R) (Instr.storeAt 83 v11 v9) w10 fun w12 =>
 NILC x0 fun v13 =>
 RUN prog (pan R) (Instr.fieldAt 87 v13 1) w12 fun v14 w15 =>
 RUN prog (pan R) (Instr.loadAt 3 v14) w15 fun v16 w17 =>
 RUN prog (pan R) (bins .add 3 (.tmp 29) (.const (.int .i64 1)) v16 (.int .i64 1)) w17 fun v18 w19 =>
 NILC x0 fun v20 =>
 RUN prog (pan R) (Instr.fieldAt 87 v20 1) w19 fun v21 w22 =>
 RUNU prog (pan R) (Instr.storeAt 3 v21 v18) w22 fun w23 =>
 C20  w23))
def b21_2 (C20:World→Prop) (x0 x3:Value) (w2:World) (_r:Tok R:=tok R) (_C20:Tok C20:=tok C20):Prop :=
 PUR prog (Instr.fieldAt 112 x3 1) fun v3 =>
 LD prog (Instr.loadAt 83 v3) (World.drew w2) fun v4 =>
 CALL prog (pan R) spec_reader_now.id #[x0] (World.drew w2) fun v5 w6 =>
 b21_1 R C20 x0 x3 v3 v4 v5 w6

def b21 (C5:World→Prop) (C20:World→Prop) (x0 x3:Value) (w:World) (_r:Tok R:=tok R) (_C5:Tok C5:=tok C5) (_C20:Tok C20:=tok C20):Prop :=
 CALL prog (pan R) spec_reader_isT.id #[x0] w fun v1 w2 =>
 SPL v1
 (b21_2 R C20 x0 x3 w2)
 (b11 R C5 x0 x3 w2)
abbrev q7 (C5:World→Prop) (C20:World→Prop):XP:=QX (fun ρ w=>C20  w) (fun ρ w=>R (.returned (.tuple #[])) w) [(4,(fun ρ w=>b11 R C5 (ρ 0) (ρ 3) w)),(2,(fun ρ w=>C5  w)),(0,(fun ρ w=>b3 R (ρ 0) w))]
theorem b21_ok (R:EP) (C5:World→Prop) (C20:World→Prop) (ρ:Env) (w:World) (h:b21 R C5 C20 (ρ 0) (ρ 3) w):cP1 R (loopC p10) (q7 R C5 C20) ρ w:=cast (by kernel_rfl) h

def l20 (C5:World→Prop) (x0 x3:Value) (w:World) (_r:Tok R:=tok R) (_C5:Tok C5:=tok C5):Prop :=
 ∃(J:World→Prop) (μ:World→Nat),J  w∧∀w0,J  w0→b21 R C5 (fun  w1=>J  w1∧μ  w1<μ  w0) x0 x3 w0
abbrev q8 (C5:World→Prop):XP:=QX (fun ρ w=>b11 R C5 (ρ 0) (ρ 3) w) (fun ρ w=>R (.returned (.tuple #[])) w) [(4,(fun ρ w=>b11 R C5 (ρ 0) (ρ 3) w)),(2,(fun ρ w=>C5  w)),(0,(fun ρ w=>b3 R (ρ 0) w))]
theorem l20_ok (R:EP) (C5:World→Prop) (ρ:Env) (w:World) (h:l20 R C5 (ρ 0) (ρ 3) w):cP1 R p10 (q8 R C5) ρ w:=by
 unfold l20 at h
 obtain ⟨J,μ,h0,hr⟩:=h
 have e:Code.loop (loopC p10)=p10:=by kernel_rfl
 rw [←e]
 refine loopQ (fun ρ' w'=>J  w') (fun ρ' w'=>μ  w') h0 fun ρ' w' hA hI=>?_
 have e0:ρ' 0=ρ 0:=Agree.at hA 0 (by kernel_rfl)
 have e3:ρ' 3=ρ 3:=Agree.at hA 3 (by kernel_rfl)
 have h1:=hr  w' hI
 rw [←e0,←e3] at h1
 exact b21_ok R C5 (fun  w1=>J  w1∧μ  w1<μ  w') ρ' w' h1
theorem l20_intro (R:EP) (C5:World→Prop) (x0 x3:Value) (w:World) (J:World→Prop) (μ:World→Nat) (h0:J  w)
  (hr:∀w0,J  w0→∀C20:World→Prop,(∀w1,J  w1→μ  w1<μ  w0→C20  w1)→b21 R C5 C20 x0 x3 w0):l20 R C5 x0 x3 w:=by
 unfold l20
 exact ⟨J,μ,h0,fun  w0 hJ=>hr  w0 hJ _ (fun  w1 h1 h2=>⟨h1,h2⟩)⟩
abbrev q9 (C5:World→Prop):XP:=QX (fun ρ w=>b11 R C5 (ρ 0) (ρ 3) w) (fun ρ w=>R (.returned (.tuple #[])) w) [(2,(fun ρ w=>C5  w)),(0,(fun ρ w=>b3 R (ρ 0) w))]
theorem k19_ok (R:EP) (C5:World→Prop) (ρ:Env) (w:World) (h:l20 R C5 (ρ 0) (ρ 3) w):cP1 R (fstC p4) (q9 R C5) ρ w:=by
 have e:Code.block 2 (blkC (fstC p4))=(fstC p4):=by kernel_rfl
 rw [←e]
 exact blockQ (l20_ok R C5 ρ w h)
theorem k8_ok (R:EP) (C5:World→Prop) (ρ:Env) (w:World) (h:l20 R C5 (ρ 0) (ρ 3) w):cP1 R p4 (q2 R C5) ρ w:=by
 have e:Code.seq (fstC p4) (sndC p4)=p4:=by kernel_rfl
 rw [←e]
 exact seqQ (fun ρ w=>b11 R C5 (ρ 0) (ρ 3) w) (k19_ok R C5 ρ w h) (fun ρ w h=>k9_ok R C5 ρ w h)

def b7 (C5:World→Prop) (x0 x2:Value) (w:World) (_r:Tok R:=tok R) (_C5:Tok C5:=tok C5):Prop :=
 RUN prog (pan R) (Instr.build 112 #[(0,x2)]) w fun v1 w2 =>
 RUN prog (pan R) (Instr.alloc 112 true (.tuple #[])) w2 fun v3 w4 =>
 RUNU prog (pan R) (Instr.storeAt 112 v3 v1) w4 fun w5 =>
 l20 R C5 x0 v3 w5
abbrev q10 (C5:World→Prop):XP:=QX (fun ρ w=>l20 R C5 (ρ 0) (ρ 3) w) (fun ρ w=>R (.returned (.tuple #[])) w) [(2,(fun ρ w=>C5  w)),(0,(fun ρ w=>b3 R (ρ 0) w))]
theorem b7_eq (R:EP) (C5:World→Prop) (ρ:Env) (w:World):(b7 R C5 (ρ 0) (ρ 2) w)=cP1 R (preC 0 p3) (q10 R C5) ρ w:=by kernel_rfl
theorem b7_ok (R:EP) (C5:World→Prop) (ρ:Env) (w:World) (h:b7 R C5 (ρ 0) (ρ 2) w):cP1 R p3 (q2 R C5) ρ w:=by
 have e:appC 0 (preC 0 p3) (dropC 1 p3)=p3:=by kernel_rfl
 rw [←e]
 exact appQ (fun ρ w=>l20 R C5 (ρ 0) (ρ 3) w) 0 ((b7_eq R C5 ρ w).mp h) (fun ρ w h=>k8_ok R C5 ρ w h)
abbrev q11 (C5:World→Prop):XP:=QX (fun ρ w=>C5  w) (fun ρ w=>R (.returned (.tuple #[])) w) [(0,(fun ρ w=>b3 R (ρ 0) w))]
theorem k6_ok (R:EP) (C5:World→Prop) (ρ:Env) (w:World) (h:b7 R C5 (ρ 0) (ρ 2) w):cP1 R (loopC p2) (q11 R C5) ρ w:=by
 have e:Code.block 1 (blkC (loopC p2))=(loopC p2):=by kernel_rfl
 rw [←e]
 exact blockQ (b7_ok R C5 ρ w h)

def l5 (x0 x2:Value) (w:World) (_r:Tok R:=tok R):Prop :=
 ∃(J:World→Prop) (μ:World→Nat),J  w∧∀w0,J  w0→b7 R (fun  w1=>J  w1∧μ  w1<μ  w0) x0 x2 w0
abbrev q12:XP:=QX (fun ρ w=>b3 R (ρ 0) w) (fun ρ w=>R (.returned (.tuple #[])) w) [(0,(fun ρ w=>b3 R (ρ 0) w))]
theorem l5_ok (h:l5 R (ρ 0) (ρ 2) w):cP1 R p2 (q12 R) ρ w:=by
 unfold l5 at h
 obtain ⟨J,μ,h0,hr⟩:=h
 have e:Code.loop (loopC p2)=p2:=by kernel_rfl
 rw [←e]
 refine loopQ (fun ρ' w'=>J  w') (fun ρ' w'=>μ  w') h0 fun ρ' w' hA hI=>?_
 have e0:ρ' 0=ρ 0:=Agree.at hA 0 (by kernel_rfl)
 have e2:ρ' 2=ρ 2:=Agree.at hA 2 (by kernel_rfl)
 have h1:=hr  w' hI
 rw [←e0,←e2] at h1
 exact k6_ok R (fun  w1=>J  w1∧μ  w1<μ  w') ρ' w' h1
theorem l5_intro (R:EP) (x0 x2:Value) (w:World) (J:World→Prop) (μ:World→Nat) (h0:J  w)
  (hr:∀w0,J  w0→∀C5:World→Prop,(∀w1,J  w1→μ  w1<μ  w0→C5  w1)→b7 R C5 x0 x2 w0):l5 R x0 x2 w:=by
 unfold l5
 exact ⟨J,μ,h0,fun  w0 hJ=>hr  w0 hJ _ (fun  w1 h1 h2=>⟨h1,h2⟩)⟩
abbrev q13:XP:=QX (fun ρ w=>b3 R (ρ 0) w) (fun ρ w=>R (.returned (.tuple #[])) w) []
theorem k4_ok (h:l5 R (ρ 0) (ρ 2) w):cP1 R (fstC p1) (q13 R) ρ w:=by
 have e:Code.block 0 (blkC (fstC p1))=(fstC p1):=by kernel_rfl
 rw [←e]
 exact blockQ (l5_ok R ρ w h)
theorem k2_ok (h:l5 R (ρ 0) (ρ 2) w):cP1 R p1 (q1 R) ρ w:=by
 have e:Code.seq (fstC p1) (sndC p1)=p1:=by kernel_rfl
 rw [←e]
 exact seqQ (fun ρ w=>b3 R (ρ 0) w) (k4_ok R ρ w h) (fun ρ w h=>b3_ok R ρ w h)
def b1_1 (x0 v1:Value) (w2:World) (_r:Tok R:=tok R):Prop :=
 NILC x0 fun v3 =>
 RUN prog (pan R) (Instr.fieldAt 87 v3 6) w2 fun v4 w5 =>
 RUN prog (pan R) (Instr.loadAt 82 v4) w5 fun v6 w7 =>
 RUN prog (pan R) (Instr.lookup 82 v6 v1 false) w7 fun v8 w9 =>
 RUN prog (pan R) (bins .add 3 (.tmp 11) (.const (.int .i64 1)) v8 (.int .i64 1)) w9 fun v10 w11 =>
 RUNU prog (pan R) (Instr.mapUpdate 82 v6 v1 v10) w11 fun w12 =>
 CALL prog (pan R) spec_reader_need.id #[x0,(.string {data:=#[58] })] w12 fun v13 w14 =>
 l5 R x0 v1 w14

def b1 (x0:Value) (w:World) (_r:Tok R:=tok R):Prop :=
 CALL prog (pan R) spec_reader_name.id #[x0] w fun v1 w2 =>
 b1_1 R x0 v1 w2
abbrev q14:XP:=QX (fun ρ w=>l5 R (ρ 0) (ρ 2) w) (fun ρ w=>R (.returned (.tuple #[])) w) []
theorem b1_eq:(b1 R (ρ 0) w)=cP1 R (preC 2 code) (q14 R) ρ w:=by kernel_rfl
theorem b1_ok (h:b1 R (ρ 0) w):cP1 R code (q1 R) ρ w:=by
 have e:appC 2 (preC 2 code) (dropC 3 code)=code:=by kernel_rfl
 rw [←e]
 exact appQ (fun ρ w=>l5 R (ρ 0) (ρ 2) w) 2 ((b1_eq R ρ w).mp h) (fun ρ w h=>k2_ok R ρ w h)
/-- What is owed for a call. -/
def run (a0:Value) (w:World):Prop:=b1 R a0 w
theorem calls (R:EP) (a0:Value) (w:World) (h:run R a0 w):Calls prog id #[a0] w R :=
 calls_of_0 (f:=id) (fn:=f75) (c:=code) (by kernel_rfl) func75 (by kernel_rfl) (by kernel_rfl) (args:=[a0]) (Nat.le_of_ble_eq_true rfl) rfl (b1_ok R (envOf [a0]) w h)
theorem enters:Enters prog id:=fun args w=>call75 args w
theorem ct {a0:Value} {w:World} {S:VP} (h:∀R:EP,(∀v w,S v w→R (.returned v) w)→run R a0 w):Ct prog id #[a0] w S :=
 Ct.intro enters fun R hR=>calls R a0 w (h R hR)
attribute [irreducible] b3 b10_1 b10 b13 b17_1 b17 b16_1 b16 b18 b15 b14 b12 b11 b21_1 b21_2 b21 l20 b7 l5 b1_1 b1 run
attribute [go_sem] b3 b10_1 b10 b13 b17_1 b17 b16_1 b16 b18 b15 b14 b12 b11 b21_1 b21_2 b21 b7 b1_1 b1 run
end spec_reader_rule

/-! ### (*presage/spec.reader).fail -/
namespace spec_reader_fail
noncomputable def code:Code:=bodyOf f76
def b1_1 (v1:Value) (w2:World) (_r:Tok R:=tok R):Prop :=
 RUN prog (pan R) (Instr.field 91 v1 2) w2 fun v3 w4 =>
 RUN prog (pan R) (Instr.build 95 #[(0,v3)]) w4 fun v5 w6 =>
 RUN prog (pan R) (Instr.makeInterface 95 v5) w6 fun v7 w8 =>
 RUN prog (pan R) (Instr.panic v7) w8 fun v9 w10 =>
 R (.returned (.tuple #[])) w10
def b1 (x0:Value) (w:World) (_r:Tok R:=tok R):Prop :=
 CALL prog (pan R) spec_reader_now.id #[x0] w fun v1 w2 =>
 b1_1 R v1 w2
abbrev q1:XP:=QX (fun ρ w=>R (.returned (.tuple #[])) w) (fun ρ w=>R (.returned (.tuple #[])) w) []
theorem b1_ok (h:b1 R (ρ 0) w):cP1 R code (q1 R) ρ w:=cast (by kernel_rfl) h
/-- What is owed for a call. -/
def run (a0:Value) (w:World):Prop:=b1 R a0 w
theorem calls (R:EP) (a0:Value) (w:World) (h:run R a0 w):Calls prog id #[a0] w R :=
 calls_of_0 (f:=id) (fn:=f76) (c:=code) (by kernel_rfl) func76 (by kernel_rfl) (by kernel_rfl) (args:=[a0]) (Nat.le_of_ble_eq_true rfl) rfl (b1_ok R (envOf [a0]) w h)
theorem enters:Enters prog id:=fun args w=>call76 args w
theorem ct {a0:Value} {w:World} {S:VP} (h:∀R:EP,(∀v w,S v w→R (.returned v) w)→run R a0 w):Ct prog id #[a0] w S :=
 Ct.intro enters fun R hR=>calls R a0 w (h R hR)
attribute [irreducible] b1_1 b1 run
attribute [go_sem] b1_1 b1 run
end spec_reader_fail

/-! ### (*presage/spec.reader).name -/
namespace spec_reader_name
noncomputable def code:Code:=bodyOf f97
noncomputable abbrev p1:Code:=dropC 3 code
def b2 (x0 x3:Value) (w:World) (_r:Tok R:=tok R):Prop :=
 NILC x0 fun v1 =>
 RUN prog (pan R) (Instr.fieldAt 87 v1 1) w fun v2 w3 =>
 RUN prog (pan R) (Instr.loadAt 3 v2) w3 fun v4 w5 =>
 RUN prog (pan R) (bins .add 3 (.tmp 14) (.const (.int .i64 1)) v4 (.int .i64 1)) w5 fun v6 w7 =>
 NILC x0 fun v8 =>
 RUN prog (pan R) (Instr.fieldAt 87 v8 1) w7 fun v9 w10 =>
 RUNU prog (pan R) (Instr.storeAt 3 v9 v6) w10 fun w11 =>
 RUN prog (pan R) (Instr.fieldAt 91 x3 1) w11 fun v12 w13 =>
 RUN prog (pan R) (Instr.loadAt 9 v12) w13 fun v14 w15 =>
 R (.returned v14) w15
abbrev q1:XP:=QX (fun ρ w=>R (.returned (ρ 2)) w) (fun ρ w=>R (.returned (ρ 2)) w) []
theorem b2_ok (h:b2 R (ρ 0) (ρ 3) w):cP1 R p1 (q1 R) ρ w:=cast (by kernel_rfl) h
def b1_1 (x0 v1:Value) (w2:World) (_r:Tok R:=tok R):Prop :=
 RUN prog (pan R) (Instr.alloc 91 true (.tuple #[])) w2 fun v3 w4 =>
 RUNU prog (pan R) (Instr.storeAt 91 v3 v1) w4 fun w5 =>
 RUN prog (pan R) (Instr.fieldAt 91 v3 0) w5 fun v6 w7 =>
 RUN prog (pan R) (Instr.loadAt 3 v6) w7 fun v8 w9 =>
 RUN prog (pan R) (bins .neq 3 (.tmp 7) (.const (.int .i64 1)) v8 (.int .i64 1)) w9 fun v10 w11 =>
 SPL v10
 (CALL prog (pan R) spec_reader_fail.id #[x0] w11 fun v12 w13 =>
 b2 R x0 v3 w13)
 (b2 R x0 v3 w11)
def b1 (x0:Value) (w:World) (_r:Tok R:=tok R):Prop :=
 CALL prog (pan R) spec_reader_now.id #[x0] w fun v1 w2 =>
 b1_1 R x0 v1 w2
abbrev q2:XP:=QX (fun ρ w=>b2 R (ρ 0) (ρ 3) w) (fun ρ w=>R (.returned (ρ 2)) w) []
theorem b1_eq:(b1 R (ρ 0) w)=cP1 R (preC 2 code) (q2 R) ρ w:=by kernel_rfl
theorem b1_ok (h:b1 R (ρ 0) w):cP1 R code (q1 R) ρ w:=by
 have e:appC 2 (preC 2 code) (dropC 3 code)=code:=by kernel_rfl
 rw [←e]
 exact appQ (fun ρ w=>b2 R (ρ 0) (ρ 3) w) 2 ((b1_eq R ρ w).mp h) (fun ρ w h=>b2_ok R ρ w h)
/-- What is owed for a call. -/
def run (a0:Value) (w:World):Prop:=b1 R a0 w
theorem calls (R:EP) (a0:Value) (w:World) (h:run R a0 w):Calls prog id #[a0] w R :=
 calls_of_t (f:=id) (fn:=f97) (c:=code) (by kernel_rfl) func97 (by kernel_rfl) (by kernel_rfl) (args:=[a0]) (Nat.le_of_ble_eq_true rfl) rfl (b1_ok R (envOf [a0]) w h)
theorem enters:Enters prog id:=fun args w=>call97 args w
theorem ct {a0:Value} {w:World} {S:VP} (h:∀R:EP,(∀v w,S v w→R (.returned v) w)→run R a0 w):Ct prog id #[a0] w S :=
 Ct.intro enters fun R hR=>calls R a0 w (h R hR)
attribute [irreducible] b2 b1_1 b1 run
attribute [go_sem] b2 b1_1 b1 run
end spec_reader_name

/-! ### (*presage/spec.reader).need -/
namespace spec_reader_need
noncomputable def code:Code:=bodyOf f98
noncomputable abbrev p1:Code:=dropC 1 code
def b2 (x0:Value) (w:World) (_r:Tok R:=tok R):Prop :=
 NILC x0 fun v1 =>
 RUN prog (pan R) (Instr.fieldAt 87 v1 1) w fun v2 w3 =>
 RUN prog (pan R) (Instr.loadAt 3 v2) w3 fun v4 w5 =>
 RUN prog (pan R) (bins .add 3 (.tmp 13) (.const (.int .i64 1)) v4 (.int .i64 1)) w5 fun v6 w7 =>
 NILC x0 fun v8 =>
 RUN prog (pan R) (Instr.fieldAt 87 v8 1) w7 fun v9 w10 =>
 RUNU prog (pan R) (Instr.storeAt 3 v9 v6) w10 fun w11 =>
 R (.returned (.tuple #[])) w11
abbrev q1:XP:=QX (fun ρ w=>R (.returned (.tuple #[])) w) (fun ρ w=>R (.returned (.tuple #[])) w) []
theorem b2_ok (h:b2 R (ρ 0) w):cP1 R p1 (q1 R) ρ w:=cast (by kernel_rfl) h
def b1_1 (x0 v1:Value) (w2:World) (_r:Tok R:=tok R):Prop :=
 RUN prog (pan R) (Op.unary .not v1) w2 fun v3 w4 =>
 SPL v3
 (CALL prog (pan R) spec_reader_fail.id #[x0] w4 fun v5 w6 =>
 b2 R x0 w6)
 (b2 R x0 w4)
def b1 (x0 x1:Value) (w:World) (_r:Tok R:=tok R):Prop :=
 CALL prog (pan R) spec_reader_is.id #[x0,(.int .i64 4),x1] w fun v1 w2 =>
 b1_1 R x0 v1 w2
abbrev q2:XP:=QX (fun ρ w=>b2 R (ρ 0) w) (fun ρ w=>R (.returned (.tuple #[])) w) []
theorem b1_eq:(b1 R (ρ 0) (ρ 1) w)=cP1 R (preC 0 code) (q2 R) ρ w:=by kernel_rfl
theorem b1_ok (h:b1 R (ρ 0) (ρ 1) w):cP1 R code (q1 R) ρ w:=by
 have e:appC 0 (preC 0 code) (dropC 1 code)=code:=by kernel_rfl
 rw [←e]
 exact appQ (fun ρ w=>b2 R (ρ 0) w) 0 ((b1_eq R ρ w).mp h) (fun ρ w h=>b2_ok R ρ w h)
/-- What is owed for a call. -/
def run (a0 a1:Value) (w:World):Prop:=b1 R a0 a1 w
theorem calls (R:EP) (a0 a1:Value) (w:World) (h:run R a0 a1 w):Calls prog id #[a0,a1] w R :=
 calls_of_0 (f:=id) (fn:=f98) (c:=code) (by kernel_rfl) func98 (by kernel_rfl) (by kernel_rfl) (args:=[a0,a1]) (Nat.le_of_ble_eq_true rfl) rfl (b1_ok R (envOf [a0,a1]) w h)
theorem enters:Enters prog id:=fun args w=>call98 args w
theorem ct {a0 a1:Value} {w:World} {S:VP} (h:∀R:EP,(∀v w,S v w→R (.returned v) w)→run R a0 a1 w):Ct prog id #[a0,a1] w S :=
 Ct.intro enters fun R hR=>calls R a0 a1 w (h R hR)
attribute [irreducible] b2 b1_1 b1 run
attribute [go_sem] b2 b1_1 b1 run
end spec_reader_need

/-! ### (*presage/spec.reader).isT -/
namespace spec_reader_isT
noncomputable def code:Code:=bodyOf f99
def b1_1 (v1:Value) (w2:World) (_r:Tok R:=tok R):Prop :=
 RUN prog (pan R) (Instr.field 91 v1 0) w2 fun v3 w4 =>
 RUN prog (pan R) (bins .eql 3 (.tmp 7) (.const (.int .i64 1)) v3 (.int .i64 1)) w4 fun v5 w6 =>
 SPL v5
 (R (.returned (.bool Bool.true)) w6)
 (RUN prog (pan R) (bins .eql 3 (.tmp 10) (.const (.int .i64 2)) v3 (.int .i64 2)) w6 fun v7 w8 =>
 R (.returned v7) w8)
def b1 (x0:Value) (w:World) (_r:Tok R:=tok R):Prop :=
 CALL prog (pan R) spec_reader_now.id #[x0] w fun v1 w2 =>
 b1_1 R v1 w2
abbrev q1:XP:=QX (fun ρ w=>R (.returned (ρ 2)) w) (fun ρ w=>R (.returned (ρ 2)) w) []
theorem b1_ok (h:b1 R (ρ 0) w):cP1 R code (q1 R) ρ w:=cast (by kernel_rfl) h
/-- What is owed for a call. -/
def run (a0:Value) (w:World):Prop:=b1 R a0 w
theorem calls (R:EP) (a0:Value) (w:World) (h:run R a0 w):Calls prog id #[a0] w R :=
 calls_of_t (f:=id) (fn:=f99) (c:=code) (by kernel_rfl) func99 (by kernel_rfl) (by kernel_rfl) (args:=[a0]) (Nat.le_of_ble_eq_true rfl) rfl (b1_ok R (envOf [a0]) w h)
theorem enters:Enters prog id:=fun args w=>call99 args w
theorem ct {a0:Value} {w:World} {S:VP} (h:∀R:EP,(∀v w,S v w→R (.returned v) w)→run R a0 w):Ct prog id #[a0] w S :=
 Ct.intro enters fun R hR=>calls R a0 w (h R hR)
attribute [irreducible] b1_1 b1 run
attribute [go_sem] b1_1 b1 run
end spec_reader_isT

/-! ### (*presage/spec.reader).is -/
namespace spec_reader_is
noncomputable def code:Code:=bodyOf f100
def b1_1 (x2 v3:Value) (w11:World) (_r:Tok R:=tok R):Prop :=
 RUN prog (pan R) (Instr.fieldAt 91 v3 1) w11 fun v12 w13 =>
 RUN prog (pan R) (Instr.loadAt 9 v12) w13 fun v14 w15 =>
 RUN prog (pan R) (bins .eql 9 (.tmp 16) (.tmp 17) v14 x2) w15 fun v16 w17 =>
 R (.returned v16) w17
def b1_2 (x1 x2 v1:Value) (w2:World) (_r:Tok R:=tok R):Prop :=
 RUN prog (pan R) (Instr.alloc 91 true (.tuple #[])) w2 fun v3 w4 =>
 RUNU prog (pan R) (Instr.storeAt 91 v3 v1) w4 fun w5 =>
 RUN prog (pan R) (Instr.fieldAt 91 v3 0) w5 fun v6 w7 =>
 RUN prog (pan R) (Instr.loadAt 3 v6) w7 fun v8 w9 =>
 RUN prog (pan R) (bins .eql 3 (.tmp 11) (.tmp 12) v8 x1) w9 fun v10 w11 =>
 SPL v10
 (b1_1 R x2 v3 w11)
 (R (.returned (.bool Bool.false)) w11)
def b1 (x0 x1 x2:Value) (w:World) (_r:Tok R:=tok R):Prop :=
 CALL prog (pan R) spec_reader_now.id #[x0] w fun v1 w2 =>
 b1_2 R x1 x2 v1 w2
abbrev q1:XP:=QX (fun ρ w=>R (.returned (ρ 6)) w) (fun ρ w=>R (.returned (ρ 6)) w) []
theorem b1_ok (h:b1 R (ρ 0) (ρ 1) (ρ 2) w):cP1 R code (q1 R) ρ w:=cast (by kernel_rfl) h
/-- What is owed for a call. -/
def run (a0 a1 a2:Value) (w:World):Prop:=b1 R a0 a1 a2 w
theorem calls (R:EP) (a0 a1 a2:Value) (w:World) (h:run R a0 a1 a2 w):Calls prog id #[a0,a1,a2] w R :=
 calls_of_t (f:=id) (fn:=f100) (c:=code) (by kernel_rfl) func100 (by kernel_rfl) (by kernel_rfl) (args:=[a0,a1,a2]) (Nat.le_of_ble_eq_true rfl) rfl (b1_ok R (envOf [a0,a1,a2]) w h)
theorem enters:Enters prog id:=fun args w=>call100 args w
theorem ct {a0 a1 a2:Value} {w:World} {S:VP} (h:∀R:EP,(∀v w,S v w→R (.returned v) w)→run R a0 a1 a2 w):Ct prog id #[a0,a1,a2] w S :=
 Ct.intro enters fun R hR=>calls R a0 a1 a2 w (h R hR)
attribute [irreducible] b1_1 b1_2 b1 run
attribute [go_sem] b1_1 b1_2 b1 run
end spec_reader_is
end Go.Proofs.YtckbgeedlobfaaaDoor
