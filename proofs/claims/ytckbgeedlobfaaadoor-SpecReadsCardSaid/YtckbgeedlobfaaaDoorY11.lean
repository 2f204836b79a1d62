/- Shallow programs, written by a program of ours (gen.py) off the translation; each is tied to the code by the kernel. -/
import Derived.Test.YtckbgeedlobfaaaDoorY04
set_option linter.unusedVariables false
set_option maxRecDepth 100000
namespace Go.Proofs.YtckbgeedlobfaaaDoor
open Go.Px Tryd Instr

/-! ### presage/presagelaw04.SpecReads -/
namespace law04_SpecReads
noncomputable def code:Code:=bodyOf f3
noncomputable abbrev p1:Code:=dropC 6 code
noncomputable abbrev p2:Code:=sndC (sndC p1)
def b4_1 (R:EP) (x5 x8 x9 x10 x11 v33 v35:Value) (w36:World) (_r:Tok R:=tok R):Prop :=
 RUN prog R (extract v35 0) w36 fun v37 w38 =>
 RUN prog R (extract v35 1) w38 fun v39 w40 =>
 RUN prog R (alloc 28 true (.tuple #[])) w40 fun v41 w42 =>
 RUN prog R (alloc 31 true (.tuple #[])) w42 fun v43 w44 =>
 RUNU prog R (storeAt 28 v41 v37) w44 fun w45 =>
 RUNU prog R (storeAt 31 v43 v39) w45 fun w46 =>
 RUN prog R (loadAt 28 v41) w46 fun v47 w48 =>
 RUN prog R (loadAt 31 v43) w48 fun v49 w50 =>
 RUN prog R (loadAt 28 x8) w50 fun v51 w52 =>
 RUN prog R (loadAt 31 x9) w52 fun v53 w54 =>
 CALL prog R law04_same.id #[v47,v49,v51,v53] w54 fun v55 w56 =>
 SPL x5
 (SPL x10
 (SPL x11
 (SPL v33
 (R (.returned v55) w56)
 (R (.returned (Value.bool false)) w56))
 (R (.returned (Value.bool false)) w56))
 (R (.returned (Value.bool false)) w56))
 (R (.returned (Value.bool false)) w56)
def b4_2 (R:EP) (x0 x5 x8 x9 x10 x11 v7 v9 v13:Value) (w14:World) (_r:Tok R:=tok R):Prop :=
 RUN prog R (extract v13 0) w14 fun v15 w16 =>
 RUN prog R (extract v13 1) w16 fun v17 w18 =>
 RUN prog R (alloc 28 true (.tuple #[])) w18 fun v19 w20 =>
 RUN prog R (alloc 31 true (.tuple #[])) w20 fun v21 w22 =>
 RUNU prog R (storeAt 28 v19 v15) w22 fun w23 =>
 RUNU prog R (storeAt 31 v21 v17) w23 fun w24 =>
 RUN prog R (loadAt 28 v7) w24 fun v25 w26 =>
 RUN prog R (loadAt 31 v9) w26 fun v27 w28 =>
 RUN prog R (loadAt 28 v19) w28 fun v29 w30 =>
 RUN prog R (loadAt 31 v21) w30 fun v31 w32 =>
 CALL prog R law04_same.id #[v25,v27,v29,v31] w32 fun v33 w34 =>
 CALL prog R spec_Read.id #[x0] w34 fun v35 w36 =>
 b4_1 R x5 x8 x9 x10 x11 v33 v35 w36
def b4_3 (R:EP) (x0 x1 x5 x8 x9 x10 x11 v1:Value) (w2:World) (_r:Tok R:=tok R):Prop :=
 RUN prog R (extract v1 0) w2 fun v3 w4 =>
 RUN prog R (extract v1 1) w4 fun v5 w6 =>
 RUN prog R (alloc 28 true (.tuple #[])) w6 fun v7 w8 =>
 RUN prog R (alloc 31 true (.tuple #[])) w8 fun v9 w10 =>
 RUNU prog R (storeAt 28 v7 v3) w10 fun w11 =>
 RUNU prog R (storeAt 31 v9 v5) w11 fun w12 =>
 CALL prog R ref04_Read.id #[x1] w12 fun v13 w14 =>
 b4_2 R x0 x5 x8 x9 x10 x11 v7 v9 v13 w14

def b4 (R:EP) (x0 x1 x5 x8 x9 x10 x11:Value) (w:World) (_r:Tok R:=tok R):Prop :=
 CALL prog R spec_Read.id #[x1] w fun v1 w2 =>
 b4_3 R x0 x1 x5 x8 x9 x10 x11 v1 w2
abbrev r0 (R:EP) (z:Env) (w:World):Prop:=R (.returned (z 4)) w
abbrev q1 (R:EP):XP:=QX (r0 R) (r0 R) []
theorem b4_ok (R:EP):TI prog R p2 (q1 R) fun z w=>b4 R (z 0) (z 1) (z 5) (z 8) (z 9) (z 10) (z 11) w:=ofT
noncomputable abbrev p3:Code:=fstC (sndC p1)
noncomputable abbrev p4:Code:=dropC 1 p3
noncomputable abbrev p5:Code:=loopC (blkC p4)
def b8_1 (R:EP) (C7:VP) (x6 x14:Value) (w8:World) (_r:Tok R:=tok R) (_C7:Tok C7:=tok C7):Prop :=
 RUN prog R (fieldAt 28 x6 0) w8 fun v9 w10 =>
 RUN prog R (loadAt 23 v9) w10 fun v11 w12 =>
 RUN prog R (indexAt 23 v11 x14) w12 fun v13 w14 =>
 RUN prog R (fieldAt 39 v13 0) w14 fun v15 w16 =>
 RUNU prog R (storeAt 9 v15 (Value.string ⟨#[109,105,110,101]⟩)) w16 fun w17 =>
 RUN prog R (bins .add 3 (.tmp 75) (.const (Value.int .i64 1)) x14 (Value.int .i64 1)) w17 fun v18 w19 =>
 C7 v18 w19

def b8 (R:EP) (C7:VP) (x0 x1 x5 x6 x8 x9 x10 x11 x14:Value) (w:World) (_r:Tok R:=tok R) (_C7:Tok C7:=tok C7):Prop :=
 RUN prog R (fieldAt 28 x6 0) w fun v1 w2 =>
 RUN prog R (loadAt 23 v1) w2 fun v3 w4 =>
 RUN prog R (Builtin.len_ #[23] 3 #[v3]) w4 fun v5 w6 =>
 RUN prog R (bins .lss 3 (.tmp 70) (.tmp 73) x14 v5) w6 fun v7 w8 =>
 SPL v7
 (b8_1 R C7 x6 x14 w8)
 (b4 R x0 x1 x5 x8 x9 x10 x11 w8)
abbrev q2 (R:EP) (C7:VP):XP:=QX (fun z w=>C7 (z 14) w) (r0 R) [(8,(fun z w=>b4 R (z 0) (z 1) (z 5) (z 8) (z 9) (z 10) (z 11) w))]
theorem b8_ok (R:EP) (C7:VP):TI prog R p5 (q2 R C7) fun z w=>b8 R C7 (z 0) (z 1) (z 5) (z 6) (z 8) (z 9) (z 10) (z 11) (z 14) w:=ofT

def l7 (R:EP) (x0 x1 x5 x6 x8 x9 x10 x11 x14:Value) (w:World) (_r:Tok R:=tok R):Prop :=
 ∃(J:VP) (μ:Value→World→Nat),J x14 w∧∀y14 w0,J y14 w0→b8 R (fun z14 w1=>J z14 w1∧μ z14 w1<μ y14 w0) x0 x1 x5 x6 x8 x9 x10 x11 y14 w0
abbrev q3 (R:EP):XP:=QX (fun z w=>b4 R (z 0) (z 1) (z 5) (z 8) (z 9) (z 10) (z 11) w) (r0 R) [(8,(fun z w=>b4 R (z 0) (z 1) (z 5) (z 8) (z 9) (z 10) (z 11) w))]
theorem l7_ok (R:EP):TI prog R (blkC p4) (q3 R) fun z w=>l7 R (z 0) (z 1) (z 5) (z 6) (z 8) (z 9) (z 10) (z 11) (z 14) w:=fun z w h=>by
 unfold l7 at h
 obtain ⟨J,μ,h0,hr⟩:=h
 refine loopT (fun z' w'=>J (z' 14) w') (fun z' w'=>μ (z' 14) w') h0 fun z' w' hA hI=>b8_ok R (fun z14 w1=>J z14 w1∧μ z14 w1<μ (z' 14) w') z' w' ?_
 have h1:=hr (z' 14) w' hI
 rwa [←hA.on 0,←hA.on 1,←hA.on 5,←hA.on 6,←hA.on 8,←hA.on 9,←hA.on 10,←hA.on 11] at h1
theorem l7_intro (R:EP) (x0 x1 x5 x6 x8 x9 x10 x11 x14:Value) (w:World) (J:VP) (μ:Value→World→Nat) (h0:J x14 w)
   (hr:∀y14 w0,J y14 w0→∀C7:VP,(∀z14 w1,J z14 w1→μ z14 w1<μ y14 w0→C7 z14 w1)→b8 R C7 x0 x1 x5 x6 x8 x9 x10 x11 y14 w0):l7 R x0 x1 x5 x6 x8 x9 x10 x11 x14 w:=by
 unfold l7
 exact ⟨J,μ,h0,fun y14 w0 hJ=>hr y14 w0 hJ _ (fun z14 w1 h1 h2=>⟨h1,h2⟩)⟩
abbrev q4 (R:EP):XP:=QX (fun z w=>b4 R (z 0) (z 1) (z 5) (z 8) (z 9) (z 10) (z 11) w) (r0 R) []
theorem k6_ok (R:EP):TI prog R p4 (q4 R) fun z w=>l7 R (z 0) (z 1) (z 5) (z 6) (z 8) (z 9) (z 10) (z 11) (z 14) w:=blockT 4 (l7_ok R)

def b5 (R:EP) (x0 x1 x5 x6 x8 x9 x10 x11:Value) (w:World) (_r:Tok R:=tok R):Prop :=
 l7 R x0 x1 x5 x6 x8 x9 x10 x11 (Value.int .i64 0) w
theorem b5_ok (R:EP):TI prog R p3 (q4 R) fun z w=>b5 R (z 0) (z 1) (z 5) (z 6) (z 8) (z 9) (z 10) (z 11) w:=appT 0 (k6_ok R)
theorem k3_ok (R:EP):TI prog R (sndC p1) (q1 R) fun z w=>b5 R (z 0) (z 1) (z 5) (z 6) (z 8) (z 9) (z 10) (z 11) w:=seqT (b5_ok R) (b4_ok R)
noncomputable abbrev p6:Code:=dropC 1 (fstC p1)
noncomputable abbrev p7:Code:=loopC (blkC p6)
noncomputable abbrev p8:Code:=dropC 1 p7

def b14 (R:EP) (C11:VP) (x12:Value) (w:World) (_r:Tok R:=tok R) (_C11:Tok C11:=tok C11):Prop :=
 RUN prog R (bins .add 3 (.tmp 49) (.const (Value.int .i64 1)) x12 (Value.int .i64 1)) w fun v1 w2 =>
 C11 v1 w2
abbrev q5 (R:EP) (C11:VP):XP:=QX (fun z w=>C11 (z 12) w) (r0 R) [(0,(fun z w=>b5 R (z 0) (z 1) (z 5) (z 6) (z 8) (z 9) (z 10) (z 11) w))]
theorem b14_ok (R:EP) (C11:VP):TI prog R (sndC p8) (q5 R C11) fun z w=>b14 R C11 (z 12) w:=ofT
noncomputable abbrev p9:Code:=blkC (fstC p8)
noncomputable abbrev p10:Code:=dropC 1 p9
noncomputable abbrev p11:Code:=loopC (blkC p10)
def b19_1 (R:EP) (C18:VP) (x6 x12 x13:Value) (w14:World) (_r:Tok R:=tok R) (_C18:Tok C18:=tok C18):Prop :=
 RUN prog R (fieldAt 28 x6 4) w14 fun v15 w16 =>
 RUN prog R (loadAt 26 v15) w16 fun v17 w18 =>
 RUN prog R (indexAt 26 v17 x12) w18 fun v19 w20 =>
 RUN prog R (fieldAt 37 v19 1) w20 fun v21 w22 =>
 RUN prog R (loadAt 25 v21) w22 fun v23 w24 =>
 RUN prog R (indexAt 25 v23 x13) w24 fun v25 w26 =>
 RUNU prog R (storeAt 3 v25 (Value.int .i64 99)) w26 fun w27 =>
 RUN prog R (bins .add 3 (.tmp 60) (.const (Value.int .i64 1)) x13 (Value.int .i64 1)) w27 fun v28 w29 =>
 C18 v28 w29

def b19 (R:EP) (C11:VP) (C18:VP) (x6 x12 x13:Value) (w:World) (_r:Tok R:=tok R) (_C11:Tok C11:=tok C11) (_C18:Tok C18:=tok C18):Prop :=
 RUN prog R (fieldAt 28 x6 4) w fun v1 w2 =>
 RUN prog R (loadAt 26 v1) w2 fun v3 w4 =>
 RUN prog R (indexAt 26 v3 x12) w4 fun v5 w6 =>
 RUN prog R (fieldAt 37 v5 1) w6 fun v7 w8 =>
 RUN prog R (loadAt 25 v7) w8 fun v9 w10 =>
 RUN prog R (Builtin.len_ #[25] 3 #[v9]) w10 fun v11 w12 =>
 RUN prog R (bins .lss 3 (.tmp 51) (.tmp 58) x13 v11) w12 fun v13 w14 =>
 SPL v13
 (b19_1 R C18 x6 x12 x13 w14)
 (b14 R C11 x12 w14)
abbrev q6 (R:EP) (C11:VP) (C18:VP):XP:=QX (fun z w=>C18 (z 13) w) (r0 R) [(4,(fun z w=>b14 R C11 (z 12) w)),(2,(fun z w=>b14 R C11 (z 12) w)),(0,(fun z w=>b5 R (z 0) (z 1) (z 5) (z 6) (z 8) (z 9) (z 10) (z 11) w))]
theorem b19_ok (R:EP) (C11:VP) (C18:VP):TI prog R p11 (q6 R C11 C18) fun z w=>b19 R C11 C18 (z 6) (z 12) (z 13) w:=ofT

def l18 (R:EP) (C11:VP) (x6 x12 x13:Value) (w:World) (_r:Tok R:=tok R) (_C11:Tok C11:=tok C11):Prop :=
 ∃(J:VP) (μ:Value→World→Nat),J x13 w∧∀y13 w0,J y13 w0→b19 R C11 (fun z13 w1=>J z13 w1∧μ z13 w1<μ y13 w0) x6 x12 y13 w0
abbrev q7 (R:EP) (C11:VP):XP:=QX (fun z w=>b14 R C11 (z 12) w) (r0 R) [(4,(fun z w=>b14 R C11 (z 12) w)),(2,(fun z w=>b14 R C11 (z 12) w)),(0,(fun z w=>b5 R (z 0) (z 1) (z 5) (z 6) (z 8) (z 9) (z 10) (z 11) w))]
theorem l18_ok (R:EP) (C11:VP):TI prog R (blkC p10) (q7 R C11) fun z w=>l18 R C11 (z 6) (z 12) (z 13) w:=fun z w h=>by
 unfold l18 at h
 obtain ⟨J,μ,h0,hr⟩:=h
 refine loopT (fun z' w'=>J (z' 13) w') (fun z' w'=>μ (z' 13) w') h0 fun z' w' hA hI=>b19_ok R C11 (fun z13 w1=>J z13 w1∧μ z13 w1<μ (z' 13) w') z' w' ?_
 have h1:=hr (z' 13) w' hI
 rwa [←hA.on 6,←hA.on 12] at h1
theorem l18_intro (R:EP) (C11:VP) (x6 x12 x13:Value) (w:World) (J:VP) (μ:Value→World→Nat) (h0:J x13 w)
   (hr:∀y13 w0,J y13 w0→∀C18:VP,(∀z13 w1,J z13 w1→μ z13 w1<μ y13 w0→C18 z13 w1)→b19 R C11 C18 x6 x12 y13 w0):l18 R C11 x6 x12 x13 w:=by
 unfold l18
 exact ⟨J,μ,h0,fun y13 w0 hJ=>hr y13 w0 hJ _ (fun z13 w1 h1 h2=>⟨h1,h2⟩)⟩
abbrev q8 (R:EP) (C11:VP):XP:=QX (fun z w=>b14 R C11 (z 12) w) (r0 R) [(2,(fun z w=>b14 R C11 (z 12) w)),(0,(fun z w=>b5 R (z 0) (z 1) (z 5) (z 6) (z 8) (z 9) (z 10) (z 11) w))]
theorem k17_ok (R:EP) (C11:VP):TI prog R p10 (q8 R C11) fun z w=>l18 R C11 (z 6) (z 12) (z 13) w:=blockT 2 (l18_ok R C11)

def b16 (R:EP) (C11:VP) (x6 x12:Value) (w:World) (_r:Tok R:=tok R) (_C11:Tok C11:=tok C11):Prop :=
 l18 R C11 x6 x12 (Value.int .i64 0) w
theorem b16_ok (R:EP) (C11:VP):TI prog R p9 (q8 R C11) fun z w=>b16 R C11 (z 6) (z 12) w:=appT 0 (k17_ok R C11)
abbrev q9 (R:EP) (C11:VP):XP:=QX (fun z w=>b14 R C11 (z 12) w) (r0 R) [(0,(fun z w=>b5 R (z 0) (z 1) (z 5) (z 6) (z 8) (z 9) (z 10) (z 11) w))]
theorem k15_ok (R:EP) (C11:VP):TI prog R (fstC p8) (q9 R C11) fun z w=>b16 R C11 (z 6) (z 12) w:=blockT 1 (b16_ok R C11)
theorem k13_ok (R:EP) (C11:VP):TI prog R p8 (q5 R C11) fun z w=>b16 R C11 (z 6) (z 12) w:=seqT (k15_ok R C11) (b14_ok R C11)

def b12 (R:EP) (C11:VP) (x0 x1 x5 x6 x8 x9 x10 x11 x12:Value) (w:World) (_r:Tok R:=tok R) (_C11:Tok C11:=tok C11):Prop :=
 RUN prog R (fieldAt 28 x6 4) w fun v1 w2 =>
 RUN prog R (loadAt 26 v1) w2 fun v3 w4 =>
 RUN prog R (Builtin.len_ #[26] 3 #[v3]) w4 fun v5 w6 =>
 RUN prog R (bins .lss 3 (.tmp 44) (.tmp 47) x12 v5) w6 fun v7 w8 =>
 SPL v7
 (b16 R C11 x6 x12 w8)
 (b5 R x0 x1 x5 x6 x8 x9 x10 x11 w8)
theorem b12_ok (R:EP) (C11:VP):TI prog R p7 (q5 R C11) fun z w=>b12 R C11 (z 0) (z 1) (z 5) (z 6) (z 8) (z 9) (z 10) (z 11) (z 12) w:=appT 0 (k13_ok R C11)

def l11 (R:EP) (x0 x1 x5 x6 x8 x9 x10 x11 x12:Value) (w:World) (_r:Tok R:=tok R):Prop :=
 ∃(J:VP) (μ:Value→World→Nat),J x12 w∧∀y12 w0,J y12 w0→b12 R (fun z12 w1=>J z12 w1∧μ z12 w1<μ y12 w0) x0 x1 x5 x6 x8 x9 x10 x11 y12 w0
abbrev q10 (R:EP):XP:=QX (fun z w=>b5 R (z 0) (z 1) (z 5) (z 6) (z 8) (z 9) (z 10) (z 11) w) (r0 R) [(0,(fun z w=>b5 R (z 0) (z 1) (z 5) (z 6) (z 8) (z 9) (z 10) (z 11) w))]
theorem l11_ok (R:EP):TI prog R (blkC p6) (q10 R) fun z w=>l11 R (z 0) (z 1) (z 5) (z 6) (z 8) (z 9) (z 10) (z 11) (z 12) w:=fun z w h=>by
 unfold l11 at h
 obtain ⟨J,μ,h0,hr⟩:=h
 refine loopT (fun z' w'=>J (z' 12) w') (fun z' w'=>μ (z' 12) w') h0 fun z' w' hA hI=>b12_ok R (fun z12 w1=>J z12 w1∧μ z12 w1<μ (z' 12) w') z' w' ?_
 have h1:=hr (z' 12) w' hI
 rwa [←hA.on 0,←hA.on 1,←hA.on 5,←hA.on 6,←hA.on 8,←hA.on 9,←hA.on 10,←hA.on 11] at h1
theorem l11_intro (R:EP) (x0 x1 x5 x6 x8 x9 x10 x11 x12:Value) (w:World) (J:VP) (μ:Value→World→Nat) (h0:J x12 w)
   (hr:∀y12 w0,J y12 w0→∀C11:VP,(∀z12 w1,J z12 w1→μ z12 w1<μ y12 w0→C11 z12 w1)→b12 R C11 x0 x1 x5 x6 x8 x9 x10 x11 y12 w0):l11 R x0 x1 x5 x6 x8 x9 x10 x11 x12 w:=by
 unfold l11
 exact ⟨J,μ,h0,fun y12 w0 hJ=>hr y12 w0 hJ _ (fun z12 w1 h1 h2=>⟨h1,h2⟩)⟩
abbrev q11 (R:EP):XP:=QX (fun z w=>b5 R (z 0) (z 1) (z 5) (z 6) (z 8) (z 9) (z 10) (z 11) w) (r0 R) []
theorem k10_ok (R:EP):TI prog R p6 (q11 R) fun z w=>l11 R (z 0) (z 1) (z 5) (z 6) (z 8) (z 9) (z 10) (z 11) (z 12) w:=blockT 0 (l11_ok R)

def b9 (R:EP) (x0 x1 x5 x6 x8 x9 x10 x11:Value) (w:World) (_r:Tok R:=tok R):Prop :=
 l11 R x0 x1 x5 x6 x8 x9 x10 x11 (Value.int .i64 0) w
theorem b9_ok (R:EP):TI prog R (fstC p1) (q11 R) fun z w=>b9 R (z 0) (z 1) (z 5) (z 6) (z 8) (z 9) (z 10) (z 11) w:=appT 0 (k10_ok R)
theorem k2_ok (R:EP):TI prog R p1 (q1 R) fun z w=>b9 R (z 0) (z 1) (z 5) (z 6) (z 8) (z 9) (z 10) (z 11) w:=seqT (b9_ok R) (k3_ok R)
def b1_1 (R:EP) (x0 x1 v1 v9 v21 v23 v35 v37:Value) (w38:World) (_r:Tok R:=tok R):Prop :=
 CALL prog R ref04_Bad.id #[x0] w38 fun v39 w40 =>
 RUN prog R (bins .eql 3 (.tmp 40) (.tmp 42) v37 v39) w40 fun v41 w42 =>
 b9 R x0 x1 v1 v9 v21 v23 v35 v41 w42
def b1_2 (R:EP) (x0 x1 v1 v9 v11 v15:Value) (w16:World) (_r:Tok R:=tok R):Prop :=
 RUN prog R (extract v15 0) w16 fun v17 w18 =>
 RUN prog R (extract v15 1) w18 fun v19 w20 =>
 RUN prog R (alloc 28 true (.tuple #[])) w20 fun v21 w22 =>
 RUN prog R (alloc 31 true (.tuple #[])) w22 fun v23 w24 =>
 RUNU prog R (storeAt 28 v21 v17) w24 fun w25 =>
 RUNU prog R (storeAt 31 v23 v19) w25 fun w26 =>
 RUN prog R (loadAt 28 v9) w26 fun v27 w28 =>
 RUN prog R (loadAt 31 v11) w28 fun v29 w30 =>
 RUN prog R (loadAt 28 v21) w30 fun v31 w32 =>
 RUN prog R (loadAt 31 v23) w32 fun v33 w34 =>
 CALL prog R law04_same.id #[v27,v29,v31,v33] w34 fun v35 w36 =>
 CALL prog R spec_Bad.id #[x0] w36 fun v37 w38 =>
 b1_1 R x0 x1 v1 v9 v21 v23 v35 v37 w38
def b1_3 (R:EP) (x0 x1 v1 v3:Value) (w4:World) (_r:Tok R:=tok R):Prop :=
 RUN prog R (extract v3 0) w4 fun v5 w6 =>
 RUN prog R (extract v3 1) w6 fun v7 w8 =>
 RUN prog R (alloc 28 true (.tuple #[])) w8 fun v9 w10 =>
 RUN prog R (alloc 31 true (.tuple #[])) w10 fun v11 w12 =>
 RUNU prog R (storeAt 28 v9 v5) w12 fun w13 =>
 RUNU prog R (storeAt 31 v11 v7) w13 fun w14 =>
 CALL prog R ref04_Read.id #[x0] w14 fun v15 w16 =>
 b1_2 R x0 x1 v1 v9 v11 v15 w16

def b1 (R:EP) (x0 x1:Value) (w:World) (_r:Tok R:=tok R):Prop :=
 CALL prog R law04_awake.id #[] w fun v1 w2 =>
 CALL prog R spec_Read.id #[x0] w2 fun v3 w4 =>
 b1_3 R x0 x1 v1 v3 w4
theorem b1_ok (R:EP):TI prog R code (q1 R) fun z w=>b1 R (z 0) (z 1) w:=appT 5 (k2_ok R)
def run (R:EP) (a0 a1:Value) (w:World):Prop:=b1 R a0 a1 w
theorem calls (R:EP) (a0 a1:Value) (w:World) (h:run R a0 a1 w):Calls prog id #[a0,a1] w R:=cls_t func3 [a0,a1] (b1_ok R _ w h)
theorem enters:Enters prog id:=fun args w=>call3 args w
theorem ct {a0 a1:Value} {w:World} {S:VP} (h:∀R:EP,(∀v w,S v w→R (.returned v) w)→run R a0 a1 w):Ct prog id #[a0,a1] w S :=
 Ct.intro enters fun R hR=>calls R a0 a1 w (h R hR)
attribute [irreducible] l7 l18 l11
attribute [irreducible,go_sem] b4_1 b4_2 b4_3 b4 b8_1 b8 b5 b14 b19_1 b19 b16 b12 b9 b1_1 b1_2 b1_3 b1 run
end law04_SpecReads

/-! ### presage/presagelaw04.awake -/
namespace law04_awake
noncomputable def code:Code:=bodyOf f11
def b1_1 (R:EP) (w58:World) (_r:Tok R:=tok R):Prop :=
 CALL prog R spec_Bad.id #[(Value.string ⟨#[]⟩)] w58 fun v59 w60 =>
 RUN prog R (bins .eql 3 (.tmp 39) (.const (Value.int .i64 0)) v59 (Value.int .i64 0)) w60 fun v61 w62 =>
 R (.returned v61) w62
def b1_2 (R:EP) (v21:Value) (w52:World) (_r:Tok R:=tok R):Prop :=
 RUN prog R (fieldAt 31 v21 1) w52 fun v53 w54 =>
 RUN prog R (loadAt 3 v53) w54 fun v55 w56 =>
 RUN prog R (bins .eql 3 (.tmp 35) (.const (Value.int .i64 3)) v55 (Value.int .i64 3)) w56 fun v57 w58 =>
 SPL v57
 (b1_1 R w58)
 (R (.returned (Value.bool false)) w58)
def b1_3 (R:EP) (v21:Value) (w46:World) (_r:Tok R:=tok R):Prop :=
 RUN prog R (fieldAt 31 v21 0) w46 fun v47 w48 =>
 RUN prog R (loadAt 29 v47) w48 fun v49 w50 =>
 RUN prog R (bins .eql 29 (.tmp 30) (.const (Value.int .i64 10)) v49 (Value.int .i64 10)) w50 fun v51 w52 =>
 SPL v51
 (b1_2 R v21 w52)
 (R (.returned (Value.bool false)) w52)
def b1_4 (R:EP) (v7 v21:Value) (w38:World) (_r:Tok R:=tok R):Prop :=
 RUN prog R (fieldAt 28 v7 0) w38 fun v39 w40 =>
 RUN prog R (loadAt 23 v39) w40 fun v41 w42 =>
 RUN prog R (Builtin.len_ #[23] 3 #[v41]) w42 fun v43 w44 =>
 RUN prog R (bins .eql 3 (.tmp 25) (.const (Value.int .i64 3)) v43 (Value.int .i64 3)) w44 fun v45 w46 =>
 SPL v45
 (b1_3 R v21 w46)
 (R (.returned (Value.bool false)) w46)
def b1_5 (R:EP) (v7 v21:Value) (w30:World) (_r:Tok R:=tok R):Prop :=
 RUN prog R (fieldAt 28 v7 4) w30 fun v31 w32 =>
 RUN prog R (loadAt 26 v31) w32 fun v33 w34 =>
 RUN prog R (Builtin.len_ #[26] 3 #[v33]) w34 fun v35 w36 =>
 RUN prog R (bins .eql 3 (.tmp 19) (.const (Value.int .i64 2)) v35 (Value.int .i64 2)) w36 fun v37 w38 =>
 SPL v37
 (b1_4 R v7 v21 w38)
 (R (.returned (Value.bool false)) w38)
def b1_6 (R:EP) (v7 v9 v13:Value) (w14:World) (_r:Tok R:=tok R):Prop :=
 RUN prog R (extract v13 0) w14 fun v15 w16 =>
 RUN prog R (extract v13 1) w16 fun v17 w18 =>
 RUN prog R (alloc 28 true (.tuple #[])) w18 fun v19 w20 =>
 RUN prog R (alloc 31 true (.tuple #[])) w20 fun v21 w22 =>
 RUNU prog R (storeAt 28 v19 v15) w22 fun w23 =>
 RUNU prog R (storeAt 31 v21 v17) w23 fun w24 =>
 RUN prog R (fieldAt 31 v9 0) w24 fun v25 w26 =>
 RUN prog R (loadAt 29 v25) w26 fun v27 w28 =>
 RUN prog R (bins .eql 29 (.tmp 14) (.const (Value.int .i64 0)) v27 (Value.int .i64 0)) w28 fun v29 w30 =>
 SPL v29
 (b1_5 R v7 v21 w30)
 (R (.returned (Value.bool false)) w30)
def b1_7 (R:EP) (v1:Value) (w2:World) (_r:Tok R:=tok R):Prop :=
 RUN prog R (extract v1 0) w2 fun v3 w4 =>
 RUN prog R (extract v1 1) w4 fun v5 w6 =>
 RUN prog R (alloc 28 true (.tuple #[])) w6 fun v7 w8 =>
 RUN prog R (alloc 31 true (.tuple #[])) w8 fun v9 w10 =>
 RUNU prog R (storeAt 28 v7 v3) w10 fun w11 =>
 RUNU prog R (storeAt 31 v9 v5) w11 fun w12 =>
 CALL prog R spec_Read.id #[(Value.string ⟨#[115,32,58]⟩)] w12 fun v13 w14 =>
 b1_6 R v7 v9 v13 w14

def b1 (R:EP) (w:World) (_r:Tok R:=tok R):Prop :=
 CALL prog R spec_Read.id #[(Value.string ⟨#[101,32,58,32,101,32,39,43,39,32,110,32,124,32,110,32,59]⟩)] w fun v1 w2 =>
 b1_7 R v1 w2
abbrev r0 (R:EP) (z:Env) (w:World):Prop:=R (.returned (z 0)) w
abbrev q1 (R:EP):XP:=QX (r0 R) (r0 R) []
theorem b1_ok (R:EP):TI prog R code (q1 R) fun z w=>b1 R w:=ofT
def run (R:EP) (w:World):Prop:=b1 R w
theorem calls (R:EP) (w:World) (h:run R w):Calls prog id #[] w R:=cls_t func11 [] (b1_ok R _ w h)
theorem enters:Enters prog id:=fun args w=>call11 args w
theorem ct {w:World} {S:VP} (h:∀R:EP,(∀v w,S v w→R (.returned v) w)→run R w):Ct prog id #[] w S :=
 Ct.intro enters fun R hR=>calls R w (h R hR)
attribute [irreducible,go_sem] b1_1 b1_2 b1_3 b1_4 b1_5 b1_6 b1_7 b1 run
end law04_awake

/-! ### presage/presagelaw04.same -/
namespace law04_same
noncomputable def code:Code:=bodyOf f14
def b1_1 (R:EP) (v3:Value) (w34:World) (_r:Tok R:=tok R):Prop :=
 RUN prog R (fieldAt 31 v3 2) w34 fun v35 w36 =>
 RUN prog R (loadAt 24 v35) w36 fun v37 w38 =>
 RUN prog R (Builtin.len_ #[24] 3 #[v37]) w38 fun v39 w40 =>
 RUN prog R (bins .eql 3 (.tmp 31) (.const (Value.int .i64 0)) v39 (Value.int .i64 0)) w40 fun v41 w42 =>
 R (.returned v41) w42
def b1_2 (R:EP) (v3 v7:Value) (w24:World) (_r:Tok R:=tok R):Prop :=
 RUN prog R (fieldAt 31 v3 1) w24 fun v25 w26 =>
 RUN prog R (loadAt 3 v25) w26 fun v27 w28 =>
 RUN prog R (fieldAt 31 v7 1) w28 fun v29 w30 =>
 RUN prog R (loadAt 3 v29) w30 fun v31 w32 =>
 RUN prog R (bins .eql 3 (.tmp 23) (.tmp 25) v27 v31) w32 fun v33 w34 =>
 SPL v33
 (b1_1 R v3 w34)
 (R (.returned (Value.bool false)) w34)
def b1_3 (R:EP) (v3 v7:Value) (w14:World) (_r:Tok R:=tok R):Prop :=
 RUN prog R (fieldAt 31 v3 0) w14 fun v15 w16 =>
 RUN prog R (loadAt 29 v15) w16 fun v17 w18 =>
 RUN prog R (fieldAt 31 v7 0) w18 fun v19 w20 =>
 RUN prog R (loadAt 29 v19) w20 fun v21 w22 =>
 RUN prog R (bins .eql 29 (.tmp 16) (.tmp 18) v17 v21) w22 fun v23 w24 =>
 SPL v23
 (b1_2 R v3 v7 w24)
 (R (.returned (Value.bool false)) w24)
def b1 (R:EP) (x0 x1 x2 x3:Value) (w:World) (_r:Tok R:=tok R):Prop :=
 RUN prog R (box 28 x0) w fun v1 w2 =>
 RUN prog R (box 31 x1) w2 fun v3 w4 =>
 RUN prog R (box 28 x2) w4 fun v5 w6 =>
 RUN prog R (box 31 x3) w6 fun v7 w8 =>
 RUN prog R (loadAt 28 v1) w8 fun v9 w10 =>
 RUN prog R (loadAt 28 v5) w10 fun v11 w12 =>
 CALL prog R ref02_Same.id #[v9,v11] w12 fun v13 w14 =>
 SPL v13
 (b1_3 R v3 v7 w14)
 (R (.returned (Value.bool false)) w14)
abbrev r0 (R:EP) (z:Env) (w:World):Prop:=R (.returned (z 8)) w
abbrev q1 (R:EP):XP:=QX (r0 R) (r0 R) []
theorem b1_ok (R:EP):TI prog R code (q1 R) fun z w=>b1 R (z 0) (z 1) (z 2) (z 3) w:=ofT
def run (R:EP) (a0 a1 a2 a3:Value) (w:World):Prop:=b1 R a0 a1 a2 a3 w
theorem calls (R:EP) (a0 a1 a2 a3:Value) (w:World) (h:run R a0 a1 a2 a3 w):Calls prog id #[a0,a1,a2,a3] w R:=cls_t func14 [a0,a1,a2,a3] (b1_ok R _ w h)
theorem enters:Enters prog id:=fun args w=>call14 args w
theorem ct {a0 a1 a2 a3:Value} {w:World} {S:VP} (h:∀R:EP,(∀v w,S v w→R (.returned v) w)→run R a0 a1 a2 a3 w):Ct prog id #[a0,a1,a2,a3] w S :=
 Ct.intro enters fun R hR=>calls R a0 a1 a2 a3 w (h R hR)
attribute [irreducible,go_sem] b1_1 b1_2 b1_3 b1 run
end law04_same

/-! ### presage/presagelaw04.alike -/
namespace law04_alike
noncomputable def code:Code:=bodyOf f23
def b1_1 (R:EP) (v9 v21:Value) (w40:World) (_r:Tok R:=tok R):Prop :=
 RUN prog R (fieldAt 31 v9 1) w40 fun v41 w42 =>
 RUN prog R (loadAt 3 v41) w42 fun v43 w44 =>
 RUN prog R (fieldAt 31 v21 1) w44 fun v45 w46 =>
 RUN prog R (loadAt 3 v45) w46 fun v47 w48 =>
 RUN prog R (bins .eql 3 (.tmp 33) (.tmp 35) v43 v47) w48 fun v49 w50 =>
 R (.returned v49) w50
def b1_2 (R:EP) (v9 v21:Value) (w30:World) (_r:Tok R:=tok R):Prop :=
 RUN prog R (fieldAt 31 v9 0) w30 fun v31 w32 =>
 RUN prog R (loadAt 29 v31) w32 fun v33 w34 =>
 RUN prog R (fieldAt 31 v21 0) w34 fun v35 w36 =>
 RUN prog R (loadAt 29 v35) w36 fun v37 w38 =>
 RUN prog R (bins .eql 29 (.tmp 26) (.tmp 28) v33 v37) w38 fun v39 w40 =>
 SPL v39
 (b1_1 R v9 v21 w40)
 (R (.returned (Value.bool false)) w40)
def b1_3 (R:EP) (v7 v9 v13:Value) (w14:World) (_r:Tok R:=tok R):Prop :=
 RUN prog R (extract v13 0) w14 fun v15 w16 =>
 RUN prog R (extract v13 1) w16 fun v17 w18 =>
 RUN prog R (alloc 28 true (.tuple #[])) w18 fun v19 w20 =>
 RUN prog R (alloc 31 true (.tuple #[])) w20 fun v21 w22 =>
 RUNU prog R (storeAt 28 v19 v15) w22 fun w23 =>
 RUNU prog R (storeAt 31 v21 v17) w23 fun w24 =>
 RUN prog R (loadAt 28 v7) w24 fun v25 w26 =>
 RUN prog R (loadAt 28 v19) w26 fun v27 w28 =>
 CALL prog R ref02_Same.id #[v25,v27] w28 fun v29 w30 =>
 SPL v29
 (b1_2 R v9 v21 w30)
 (R (.returned (Value.bool false)) w30)
def b1_4 (R:EP) (x1 v1:Value) (w2:World) (_r:Tok R:=tok R):Prop :=
 RUN prog R (extract v1 0) w2 fun v3 w4 =>
 RUN prog R (extract v1 1) w4 fun v5 w6 =>
 RUN prog R (alloc 28 true (.tuple #[])) w6 fun v7 w8 =>
 RUN prog R (alloc 31 true (.tuple #[])) w8 fun v9 w10 =>
 RUNU prog R (storeAt 28 v7 v3) w10 fun w11 =>
 RUNU prog R (storeAt 31 v9 v5) w11 fun w12 =>
 CALL prog R spec_Read.id #[x1] w12 fun v13 w14 =>
 b1_3 R v7 v9 v13 w14
def b1 (R:EP) (x0 x1:Value) (w:World) (_r:Tok R:=tok R):Prop :=
 CALL prog R spec_Read.id #[x0] w fun v1 w2 =>
 b1_4 R x1 v1 w2
abbrev r0 (R:EP) (z:Env) (w:World):Prop:=R (.returned (z 4)) w
abbrev q1 (R:EP):XP:=QX (r0 R) (r0 R) []
theorem b1_ok (R:EP):TI prog R code (q1 R) fun z w=>b1 R (z 0) (z 1) w:=ofT
def run (R:EP) (a0 a1:Value) (w:World):Prop:=b1 R a0 a1 w
theorem calls (R:EP) (a0 a1:Value) (w:World) (h:run R a0 a1 w):Calls prog id #[a0,a1] w R:=cls_t func23 [a0,a1] (b1_ok R _ w h)
theorem enters:Enters prog id:=fun args w=>call23 args w
theorem ct {a0 a1:Value} {w:World} {S:VP} (h:∀R:EP,(∀v w,S v w→R (.returned v) w)→run R a0 a1 w):Ct prog id #[a0,a1] w S :=
 Ct.intro enters fun R hR=>calls R a0 a1 w (h R hR)
attribute [irreducible,go_sem] b1_1 b1_2 b1_3 b1_4 b1 run
end law04_alike
end Go.Proofs.YtckbgeedlobfaaaDoor
