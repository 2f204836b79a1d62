/-
  Texts of this claim: T02Lib, T02R.
-/
import Derived.Test.YtckbgeedlobfaaaDoorY04
set_option linter.unusedVariables false
set_option maxRecDepth 100000
/- Shallow programs, written by a program of ours (gen.py) off the translation; each is tied to the code by the kernel. -/
namespace Go.Proofs.YtckbgeedlobfaaaDoor
open Go.Px Tryd
abbrev cP6 (R:EP):=codeP prog (pan R)
variable (R:EP) (ρ:Env) (w:World)

/-! ### strings.IndexFunc -/
namespace strings_IndexFunc
noncomputable def code:Code:=bodyOf f90
def b1 (x0 x1:Value) (w:World) (_r:Tok R:=tok R):Prop :=
 CALL prog (pan R) strings_indexFunc.id #[x0,x1,(.bool Bool.true)] w fun v1 w2 =>
 R (.returned v1) w2
abbrev q1:XP:=QX (fun ρ w=>R (.returned (ρ 4)) w) (fun ρ w=>R (.returned (ρ 4)) w) []
theorem b1_ok (h:b1 R (ρ 0) (ρ 1) w):cP6 R code (q1 R) ρ w:=cast (by kernel_rfl) h
/-- What is owed for a call. -/
def run (a0 a1:Value) (w:World):Prop:=b1 R a0 a1 w
theorem calls (R:EP) (a0 a1:Value) (w:World) (h:run R a0 a1 w):Calls prog id #[a0,a1] w R :=
 calls_of_t (f:=id) (fn:=f90) (c:=code) (by kernel_rfl) func90 (by kernel_rfl) (by kernel_rfl) (args:=[a0,a1]) (Nat.le_of_ble_eq_true rfl) rfl (b1_ok R (envOf [a0,a1]) w h)
theorem enters:Enters prog id:=fun args w=>call90 args w
theorem ct {a0 a1:Value} {w:World} {S:VP} (h:∀R:EP,(∀v w,S v w→R (.returned v) w)→run R a0 a1 w):Ct prog id #[a0,a1] w S :=
 Ct.intro enters fun R hR=>calls R a0 a1 w (h R hR)
attribute [irreducible] b1 run
end strings_IndexFunc

/-! ### strings.Clone -/
namespace strings_Clone
noncomputable def code:Code:=bodyOf f101
def b1 (x0:Value) (w:World) (_r:Tok R:=tok R):Prop :=
 CALL prog (pan R) internal_stringslite_Clone.id #[x0] w fun v1 w2 =>
 R (.returned v1) w2
abbrev q1:XP:=QX (fun ρ w=>R (.returned (ρ 2)) w) (fun ρ w=>R (.returned (ρ 2)) w) []
theorem b1_ok (h:b1 R (ρ 0) w):cP6 R code (q1 R) ρ w:=cast (by kernel_rfl) h
/-- What is owed for a call. -/
def run (a0:Value) (w:World):Prop:=b1 R a0 w
theorem calls (R:EP) (a0:Value) (w:World) (h:run R a0 w):Calls prog id #[a0] w R :=
 calls_of_t (f:=id) (fn:=f101) (c:=code) (by kernel_rfl) func101 (by kernel_rfl) (by kernel_rfl) (args:=[a0]) (Nat.le_of_ble_eq_true rfl) rfl (b1_ok R (envOf [a0]) w h)
theorem enters:Enters prog id:=fun args w=>call101 args w
theorem ct {a0:Value} {w:World} {S:VP} (h:∀R:EP,(∀v w,S v w→R (.returned v) w)→run R a0 w):Ct prog id #[a0] w S :=
 Ct.intro enters fun R hR=>calls R a0 w (h R hR)
attribute [irreducible] b1 run
end strings_Clone

/-! ### strings.indexFunc -/
namespace strings_indexFunc
noncomputable def code:Code:=bodyOf f103
noncomputable abbrev p1:Code:=dropC 1 code

def b3 (w:World) (_r:Tok R:=tok R):Prop :=
 R (.returned (.int .i64 (-1))) w
abbrev q1:XP:=QX (fun ρ w=>R (.returned (ρ 6)) w) (fun ρ w=>R (.returned (ρ 6)) w) []
theorem b3_ok (h:b3 R w):cP6 R (sndC p1) (q1 R) ρ w:=cast (by kernel_rfl) h
noncomputable abbrev p2:Code:=dropC 1 (fstC p1)
noncomputable abbrev p3:Code:=loopC (blkC p2)
def b7 (C6:World→Prop) (x1 x2 x10:Value) (w:World) (_r:Tok R:=tok R) (_C6:Tok C6:=tok C6):Prop :=
 RUN prog (pan R) (Instr.next x10 true 0) w fun v1 w2 =>
 RUN prog (pan R) (Instr.extract v1 0) w2 fun v3 w4 =>
 SPL v3
 (RUN prog (pan R) (Instr.extract v1 1) w4 fun v5 w6 =>
 RUN prog (pan R) (Instr.extract v1 2) w6 fun v7 w8 =>
 CALLY prog (pan R) x1 [v7] w8 fun v9 w10 =>
 RUN prog (pan R) (bins .eql 4 (.tmp 17) (.tmp 18) v9 x2) w10 fun v11 w12 =>
 SPL v11
 (R (.returned v5) w12)
 (C6  w12))
 (b3 R w4)
abbrev q2 (C6:World→Prop):XP:=QX (fun ρ w=>C6  w) (fun ρ w=>R (.returned (ρ 6)) w) [(0,(fun ρ w=>b3 R  w))]
theorem b7_ok (R:EP) (C6:World→Prop) (ρ:Env) (w:World) (h:b7 R C6 (ρ 1) (ρ 2) (ρ 10) w):cP6 R p3 (q2 R C6) ρ w:=cast (by kernel_rfl) h
def l6 (x1 x2 x10:Value) (w:World) (_r:Tok R:=tok R):Prop :=
 ∃(J:World→Prop) (μ:World→Nat),J  w∧∀w0,J  w0→b7 R (fun  w1=>J  w1∧μ  w1<μ  w0) x1 x2 x10 w0
abbrev q3:XP:=QX (fun ρ w=>b3 R  w) (fun ρ w=>R (.returned (ρ 6)) w) [(0,(fun ρ w=>b3 R  w))]
theorem l6_ok (h:l6 R (ρ 1) (ρ 2) (ρ 10) w):cP6 R (blkC p2) (q3 R) ρ w:=by
 unfold l6 at h
 obtain ⟨J,μ,h0,hr⟩:=h
 have e:Code.loop (loopC (blkC p2))=(blkC p2):=by kernel_rfl
 rw [←e]
 refine loopQ (fun ρ' w'=>J  w') (fun ρ' w'=>μ  w') h0 fun ρ' w' hA hI=>?_
 have e1:ρ' 1=ρ 1:=Agree.at hA 1 (by kernel_rfl)
 have e2:ρ' 2=ρ 2:=Agree.at hA 2 (by kernel_rfl)
 have e10:ρ' 10=ρ 10:=Agree.at hA 10 (by kernel_rfl)
 have h1:=hr  w' hI
 rw [←e1,←e2,←e10] at h1
 exact b7_ok R (fun  w1=>J  w1∧μ  w1<μ  w') ρ' w' h1
theorem l6_intro (R:EP) (x1 x2 x10:Value) (w:World) (J:World→Prop) (μ:World→Nat) (h0:J  w)
  (hr:∀w0,J  w0→∀C6:World→Prop,(∀w1,J  w1→μ  w1<μ  w0→C6  w1)→b7 R C6 x1 x2 x10 w0):l6 R x1 x2 x10 w:=by
 unfold l6
 exact ⟨J,μ,h0,fun  w0 hJ=>hr  w0 hJ _ (fun  w1 h1 h2=>⟨h1,h2⟩)⟩
abbrev q4:XP:=QX (fun ρ w=>b3 R  w) (fun ρ w=>R (.returned (ρ 6)) w) []
theorem k5_ok (h:l6 R (ρ 1) (ρ 2) (ρ 10) w):cP6 R p2 (q4 R) ρ w:=by
 have e:Code.block 0 (blkC p2)=p2:=by kernel_rfl
 rw [←e]
 exact blockQ (l6_ok R ρ w h)
def b4 (x0 x1 x2:Value) (w:World) (_r:Tok R:=tok R):Prop :=
 RUN prog (pan R) (Instr.range 9 x0) w fun v1 w2 =>
 l6 R x1 x2 v1 w2
abbrev q5:XP:=QX (fun ρ w=>l6 R (ρ 1) (ρ 2) (ρ 10) w) (fun ρ w=>R (.returned (ρ 6)) w) []
theorem b4_eq:(b4 R (ρ 0) (ρ 1) (ρ 2) w)=cP6 R (preC 0 (fstC p1)) (q5 R) ρ w:=by kernel_rfl
theorem b4_ok (h:b4 R (ρ 0) (ρ 1) (ρ 2) w):cP6 R (fstC p1) (q4 R) ρ w:=by
 have e:appC 0 (preC 0 (fstC p1)) (dropC 1 (fstC p1))=(fstC p1):=by kernel_rfl
 rw [←e]
 exact appQ (fun ρ w=>l6 R (ρ 1) (ρ 2) (ρ 10) w) 0 ((b4_eq R ρ w).mp h) (fun ρ w h=>k5_ok R ρ w h)
theorem k2_ok (h:b4 R (ρ 0) (ρ 1) (ρ 2) w):cP6 R p1 (q1 R) ρ w:=by
 have e:Code.seq (fstC p1) (sndC p1)=p1:=by kernel_rfl
 rw [←e]
 exact seqQ (fun ρ w=>b3 R  w) (b4_ok R ρ w h) (fun ρ w h=>b3_ok R ρ w h)
def b1 (x0 x1 x2:Value) (w:World) (_r:Tok R:=tok R):Prop :=
 b4 R x0 x1 x2 w
abbrev q6:XP:=QX (fun ρ w=>b4 R (ρ 0) (ρ 1) (ρ 2) w) (fun ρ w=>R (.returned (ρ 6)) w) []
theorem b1_eq:(b1 R (ρ 0) (ρ 1) (ρ 2) w)=cP6 R (preC 0 code) (q6 R) ρ w:=by kernel_rfl
theorem b1_ok (h:b1 R (ρ 0) (ρ 1) (ρ 2) w):cP6 R code (q1 R) ρ w:=by
 have e:appC 0 (preC 0 code) (dropC 1 code)=code:=by kernel_rfl
 rw [←e]
 exact appQ (fun ρ w=>b4 R (ρ 0) (ρ 1) (ρ 2) w) 0 ((b1_eq R ρ w).mp h) (fun ρ w h=>k2_ok R ρ w h)
/-- What is owed for a call. -/
def run (a0 a1 a2:Value) (w:World):Prop:=b1 R a0 a1 a2 w
theorem calls (R:EP) (a0 a1 a2:Value) (w:World) (h:run R a0 a1 a2 w):Calls prog id #[a0,a1,a2] w R :=
 calls_of_t (f:=id) (fn:=f103) (c:=code) (by kernel_rfl) func103 (by kernel_rfl) (by kernel_rfl) (args:=[a0,a1,a2]) (Nat.le_of_ble_eq_true rfl) rfl (b1_ok R (envOf [a0,a1,a2]) w h)
theorem enters:Enters prog id:=fun args w=>call103 args w
theorem ct {a0 a1 a2:Value} {w:World} {S:VP} (h:∀R:EP,(∀v w,S v w→R (.returned v) w)→run R a0 a1 a2 w):Ct prog id #[a0,a1,a2] w S :=
 Ct.intro enters fun R hR=>calls R a0 a1 a2 w (h R hR)
attribute [irreducible] b3 b7 l6 b4 b1 run
end strings_indexFunc

/-! ### internal/stringslite.Clone -/
namespace internal_stringslite_Clone
noncomputable def code:Code:=bodyOf f113
def b1 (x0:Value) (w:World) (_r:Tok R:=tok R):Prop :=
 RUN prog (pan R) (Builtin.len_ #[9] 3 #[x0]) w fun v1 w2 =>
 RUN prog (pan R) (bins .eql 3 (.tmp 5) (.const (.int .i64 0)) v1 (.int .i64 0)) w2 fun v3 w4 =>
 SPL v3
 (R (.returned (.string {data:=#[] })) w4)
 (RUN prog (pan R) (Builtin.len_ #[9] 3 #[x0]) w4 fun v5 w6 =>
 RUN prog (pan R) (Instr.makeSlice 160 v5 v5) w6 fun v7 w8 =>
 RUN prog (pan R) (Builtin.copy_ #[160,9] 3 #[v7,x0]) w8 fun v9 w10 =>
 RUN prog (pan R) (Instr.indexAt 160 v7 (.int .i64 0)) w10 fun v11 w12 =>
 RUN prog (pan R) (Builtin.len_ #[160] 3 #[v7]) w12 fun v13 w14 =>
 RUN prog (pan R) (Builtin.unsafeString_ #[161,3] 9 #[v11,v13]) w14 fun v15 w16 =>
 R (.returned v15) w16)
abbrev q1:XP:=QX (fun ρ w=>R (.returned (ρ 2)) w) (fun ρ w=>R (.returned (ρ 2)) w) []
theorem b1_ok (h:b1 R (ρ 0) w):cP6 R code (q1 R) ρ w:=cast (by kernel_rfl) h
/-- What is owed for a call. -/
def run (a0:Value) (w:World):Prop:=b1 R a0 w
theorem calls (R:EP) (a0:Value) (w:World) (h:run R a0 w):Calls prog id #[a0] w R :=
 calls_of_t (f:=id) (fn:=f113) (c:=code) (by kernel_rfl) func113 (by kernel_rfl) (by kernel_rfl) (args:=[a0]) (Nat.le_of_ble_eq_true rfl) rfl (b1_ok R (envOf [a0]) w h)
theorem enters:Enters prog id:=fun args w=>call113 args w
theorem ct {a0:Value} {w:World} {S:VP} (h:∀R:EP,(∀v w,S v w→R (.returned v) w)→run R a0 w):Ct prog id #[a0] w S :=
 Ct.intro enters fun R hR=>calls R a0 w (h R hR)
attribute [irreducible] b1 run
end internal_stringslite_Clone

/-! ### slices.ContainsFunc[[]int,int] -/
namespace slices_ContainsFunc_int_int
noncomputable def code:Code:=bodyOf f81
def b1 (x0 x1:Value) (w:World) (_r:Tok R:=tok R):Prop :=
 CALL prog (pan R) slices_IndexFunc_int_int.id #[x0,x1] w fun v1 w2 =>
 RUN prog (pan R) (bins .geq 3 (.tmp 7) (.const (.int .i64 0)) v1 (.int .i64 0)) w2 fun v3 w4 =>
 R (.returned v3) w4
abbrev q1:XP:=QX (fun ρ w=>R (.returned (ρ 4)) w) (fun ρ w=>R (.returned (ρ 4)) w) []
theorem b1_ok (h:b1 R (ρ 0) (ρ 1) w):cP6 R code (q1 R) ρ w:=cast (by kernel_rfl) h
/-- What is owed for a call. -/
def run (a0 a1:Value) (w:World):Prop:=b1 R a0 a1 w
theorem calls (R:EP) (a0 a1:Value) (w:World) (h:run R a0 a1 w):Calls prog id #[a0,a1] w R :=
 calls_of_t (f:=id) (fn:=f81) (c:=code) (by kernel_rfl) func81 (by kernel_rfl) (by kernel_rfl) (args:=[a0,a1]) (Nat.le_of_ble_eq_true rfl) rfl (b1_ok R (envOf [a0,a1]) w h)
theorem enters:Enters prog id:=fun args w=>call81 args w
theorem ct {a0 a1:Value} {w:World} {S:VP} (h:∀R:EP,(∀v w,S v w→R (.returned v) w)→run R a0 a1 w):Ct prog id #[a0,a1] w S :=
 Ct.intro enters fun R hR=>calls R a0 a1 w (h R hR)
attribute [irreducible] b1 run
end slices_ContainsFunc_int_int

/-! ### slices.IndexFunc[[]int,int] -/
namespace slices_IndexFunc_int_int
noncomputable def code:Code:=bodyOf f102
noncomputable abbrev p1:Code:=dropC 1 code

def b3 (w:World) (_r:Tok R:=tok R):Prop :=
 R (.returned (.int .i64 (-1))) w
abbrev q1:XP:=QX (fun ρ w=>R (.returned (ρ 4)) w) (fun ρ w=>R (.returned (ρ 4)) w) []
theorem b3_ok (h:b3 R w):cP6 R (sndC p1) (q1 R) ρ w:=cast (by kernel_rfl) h
noncomputable abbrev p2:Code:=dropC 1 (fstC p1)
noncomputable abbrev p3:Code:=loopC (blkC p2)
def b7 (C6:VP) (x0 x1 x7 x8:Value) (w:World) (_r:Tok R:=tok R) (_C6:Tok C6:=tok C6):Prop :=
 RUN prog (pan R) (bins .lss 3 (.tmp 8) (.tmp 7) x8 x7) w fun v1 w2 =>
 SPL v1
 (RUN prog (pan R) (Instr.indexAt 25 x0 x8) w2 fun v3 w4 =>
 RUN prog (pan R) (Instr.loadAt 3 v3) w4 fun v5 w6 =>
 CALLY prog (pan R) x1 [v5] w6 fun v7 w8 =>
 SPL v7
 (R (.returned x8) w8)
 (RUN prog (pan R) (bins .add 3 (.tmp 8) (.const (.int .i64 1)) x8 (.int .i64 1)) w8 fun v9 w10 =>
 C6 v9 w10))
 (b3 R w2)
abbrev q2 (C6:VP):XP:=QX (fun ρ w=>C6 (ρ 8) w) (fun ρ w=>R (.returned (ρ 4)) w) [(0,(fun ρ w=>b3 R  w))]
theorem b7_ok (R:EP) (C6:VP) (ρ:Env) (w:World) (h:b7 R C6 (ρ 0) (ρ 1) (ρ 7) (ρ 8) w):cP6 R p3 (q2 R C6) ρ w:=cast (by kernel_rfl) h
def l6 (x0 x1 x7 x8:Value) (w:World) (_r:Tok R:=tok R):Prop :=
 ∃(J:VP) (μ:Value→World→Nat),J x8 w∧∀y8 w0,J y8 w0→b7 R (fun z8 w1=>J z8 w1∧μ z8 w1<μ y8 w0) x0 x1 x7 y8 w0
abbrev q3:XP:=QX (fun ρ w=>b3 R  w) (fun ρ w=>R (.returned (ρ 4)) w) [(0,(fun ρ w=>b3 R  w))]
theorem l6_ok (h:l6 R (ρ 0) (ρ 1) (ρ 7) (ρ 8) w):cP6 R (blkC p2) (q3 R) ρ w:=by
 unfold l6 at h
 obtain ⟨J,μ,h0,hr⟩:=h
 have e:Code.loop (loopC (blkC p2))=(blkC p2):=by kernel_rfl
 rw [←e]
 refine loopQ (fun ρ' w'=>J (ρ' 8) w') (fun ρ' w'=>μ (ρ' 8) w') h0 fun ρ' w' hA hI=>?_
 have e0:ρ' 0=ρ 0:=Agree.at hA 0 (by kernel_rfl)
 have e1:ρ' 1=ρ 1:=Agree.at hA 1 (by kernel_rfl)
 have e7:ρ' 7=ρ 7:=Agree.at hA 7 (by kernel_rfl)
 have h1:=hr (ρ' 8) w' hI
 rw [←e0,←e1,←e7] at h1
 exact b7_ok R (fun z8 w1=>J z8 w1∧μ z8 w1<μ (ρ' 8) w') ρ' w' h1
theorem l6_intro (R:EP) (x0 x1 x7 x8:Value) (w:World) (J:VP) (μ:Value→World→Nat) (h0:J x8 w)
  (hr:∀y8 w0,J y8 w0→∀C6:VP,(∀z8 w1,J z8 w1→μ z8 w1<μ y8 w0→C6 z8 w1)→b7 R C6 x0 x1 x7 y8 w0):l6 R x0 x1 x7 x8 w:=by
 unfold l6
 exact ⟨J,μ,h0,fun y8 w0 hJ=>hr y8 w0 hJ _ (fun z8 w1 h1 h2=>⟨h1,h2⟩)⟩
abbrev q4:XP:=QX (fun ρ w=>b3 R  w) (fun ρ w=>R (.returned (ρ 4)) w) []
theorem k5_ok (h:l6 R (ρ 0) (ρ 1) (ρ 7) (ρ 8) w):cP6 R p2 (q4 R) ρ w:=by
 have e:Code.block 0 (blkC p2)=p2:=by kernel_rfl
 rw [←e]
 exact blockQ (l6_ok R ρ w h)
def b4 (x0 x1:Value) (w:World) (_r:Tok R:=tok R):Prop :=
 RUN prog (pan R) (Builtin.len_ #[25] 3 #[x0]) w fun v1 w2 =>
 l6 R x0 x1 v1 (.int .i64 0) w2
abbrev q5:XP:=QX (fun ρ w=>l6 R (ρ 0) (ρ 1) (ρ 7) (ρ 8) w) (fun ρ w=>R (.returned (ρ 4)) w) []
theorem b4_eq:(b4 R (ρ 0) (ρ 1) w)=cP6 R (preC 0 (fstC p1)) (q5 R) ρ w:=by kernel_rfl
theorem b4_ok (h:b4 R (ρ 0) (ρ 1) w):cP6 R (fstC p1) (q4 R) ρ w:=by
 have e:appC 0 (preC 0 (fstC p1)) (dropC 1 (fstC p1))=(fstC p1):=by kernel_rfl
 rw [←e]
 exact appQ (fun ρ w=>l6 R (ρ 0) (ρ 1) (ρ 7) (ρ 8) w) 0 ((b4_eq R ρ w).mp h) (fun ρ w h=>k5_ok R ρ w h)
theorem k2_ok (h:b4 R (ρ 0) (ρ 1) w):cP6 R p1 (q1 R) ρ w:=by
 have e:Code.seq (fstC p1) (sndC p1)=p1:=by kernel_rfl
 rw [←e]
 exact seqQ (fun ρ w=>b3 R  w) (b4_ok R ρ w h) (fun ρ w h=>b3_ok R ρ w h)
def b1 (x0 x1:Value) (w:World) (_r:Tok R:=tok R):Prop :=
 b4 R x0 x1 w
abbrev q6:XP:=QX (fun ρ w=>b4 R (ρ 0) (ρ 1) w) (fun ρ w=>R (.returned (ρ 4)) w) []
theorem b1_eq:(b1 R (ρ 0) (ρ 1) w)=cP6 R (preC 0 code) (q6 R) ρ w:=by kernel_rfl
theorem b1_ok (h:b1 R (ρ 0) (ρ 1) w):cP6 R code (q1 R) ρ w:=by
 have e:appC 0 (preC 0 code) (dropC 1 code)=code:=by kernel_rfl
 rw [←e]
 exact appQ (fun ρ w=>b4 R (ρ 0) (ρ 1) w) 0 ((b1_eq R ρ w).mp h) (fun ρ w h=>k2_ok R ρ w h)
/-- What is owed for a call. -/
def run (a0 a1:Value) (w:World):Prop:=b1 R a0 a1 w
theorem calls (R:EP) (a0 a1:Value) (w:World) (h:run R a0 a1 w):Calls prog id #[a0,a1] w R :=
 calls_of_t (f:=id) (fn:=f102) (c:=code) (by kernel_rfl) func102 (by kernel_rfl) (by kernel_rfl) (args:=[a0,a1]) (Nat.le_of_ble_eq_true rfl) rfl (b1_ok R (envOf [a0,a1]) w h)
theorem enters:Enters prog id:=fun args w=>call102 args w
theorem ct {a0 a1:Value} {w:World} {S:VP} (h:∀R:EP,(∀v w,S v w→R (.returned v) w)→run R a0 a1 w):Ct prog id #[a0,a1] w S :=
 Ct.intro enters fun R hR=>calls R a0 a1 w (h R hR)
attribute [irreducible] b3 b7 l6 b4 b1 run
end slices_IndexFunc_int_int

/-! ### slices.Clone[[]int,int] -/
namespace slices_Clone_int_int
noncomputable def code:Code:=bodyOf f52
def b1 (x0:Value) (w:World) (_r:Tok R:=tok R):Prop :=
 RUN prog (pan R) (bins .eql 25 (.tmp 3) (.const (.slice Option.none 0 0)) x0 (.slice Option.none 0 0)) w fun v1 w2 =>
 SPL v1
 (R (.returned (.slice Option.none 0 0)) w2)
 (RUN prog (pan R) (Instr.buildSlice 25 0 #[]) w2 fun v3 w4 =>
 RUN prog (pan R) (Builtin.append_ #[25,25] 25 #[v3,x0]) w4 fun v5 w6 =>
 R (.returned v5) w6)
abbrev q1:XP:=QX (fun ρ w=>R (.returned (ρ 2)) w) (fun ρ w=>R (.returned (ρ 2)) w) []
theorem b1_ok (h:b1 R (ρ 0) w):cP6 R code (q1 R) ρ w:=cast (by kernel_rfl) h
/-- What is owed for a call. -/
def run (a0:Value) (w:World):Prop:=b1 R a0 w
theorem calls (R:EP) (a0:Value) (w:World) (h:run R a0 w):Calls prog id #[a0] w R :=
 calls_of_t (f:=id) (fn:=f52) (c:=code) (by kernel_rfl) func52 (by kernel_rfl) (by kernel_rfl) (args:=[a0]) (Nat.le_of_ble_eq_true rfl) rfl (b1_ok R (envOf [a0]) w h)
theorem enters:Enters prog id:=fun args w=>call52 args w
theorem ct {a0:Value} {w:World} {S:VP} (h:∀R:EP,(∀v w,S v w→R (.returned v) w)→run R a0 w):Ct prog id #[a0] w S :=
 Ct.intro enters fun R hR=>calls R a0 w (h R hR)
attribute [irreducible] b1 run
end slices_Clone_int_int
end Go.Proofs.YtckbgeedlobfaaaDoor

/- Shallow programs, written by a program of ours (gen.py) off the translation; each is tied to the code by the kernel. -/
namespace Go.Proofs.YtckbgeedlobfaaaDoor
open Go.Px Tryd
abbrev cP7 (R:EP):=codeP prog (pan R)
variable (R:EP) (ρ:Env) (w:World)

/-! ### presage/presageref02.SameInts -/
namespace ref02_SameInts
noncomputable def code:Code:=bodyOf f36
noncomputable abbrev p1:Code:=dropC 2 code

def b3 (w:World) (_r:Tok R:=tok R):Prop :=
 R (.returned (.bool Bool.true)) w
abbrev q1:XP:=QX (fun ρ w=>R (.returned (ρ 4)) w) (fun ρ w=>R (.returned (ρ 4)) w) []
theorem b3_ok (h:b3 R w):cP7 R (sndC p1) (q1 R) ρ w:=cast (by kernel_rfl) h
noncomputable abbrev p2:Code:=dropC 1 (fstC p1)
noncomputable abbrev p3:Code:=loopC (blkC p2)
def b7 (C6:VP) (x0 x1 x5:Value) (w:World) (_r:Tok R:=tok R) (_C6:Tok C6:=tok C6):Prop :=
 RUN prog (pan R) (Builtin.len_ #[25] 3 #[x0]) w fun v1 w2 =>
 RUN prog (pan R) (bins .lss 3 (.tmp 11) (.tmp 13) x5 v1) w2 fun v3 w4 =>
 SPL v3
 (PUR prog (Instr.indexAt 25 x0 x5) fun v5 =>
 LD prog (Instr.loadAt 3 v5) (World.drew w4) fun v6 =>
 PUR prog (Instr.indexAt 25 x1 x5) fun v7 =>
 LD prog (Instr.loadAt 3 v7) (World.drew w4) fun v8 =>
 PUR prog (bins .neq 3 (.tmp 20) (.tmp 24) v6 v8) fun v9 =>
 SPL v9
 (R (.returned (.bool Bool.false)) (World.drew w4))
 (RUN prog (pan R) (bins .add 3 (.tmp 15) (.const (.int .i64 1)) x5 (.int .i64 1)) (World.drew w4) fun v10 w11 =>
 C6 v10 w11))
 (b3 R w4)
abbrev q2 (C6:VP):XP:=QX (fun ρ w=>C6 (ρ 5) w) (fun ρ w=>R (.returned (ρ 4)) w) [(0,(fun ρ w=>b3 R  w))]
theorem b7_ok (R:EP) (C6:VP) (ρ:Env) (w:World) (h:b7 R C6 (ρ 0) (ρ 1) (ρ 5) w):cP7 R p3 (q2 R C6) ρ w:=cast (by kernel_rfl) h
def l6 (x0 x1 x5:Value) (w:World) (_r:Tok R:=tok R):Prop :=
 ∃(J:VP) (μ:Value→World→Nat),J x5 w∧∀y5 w0,J y5 w0→b7 R (fun z5 w1=>J z5 w1∧μ z5 w1<μ y5 w0) x0 x1 y5 w0
abbrev q3:XP:=QX (fun ρ w=>b3 R  w) (fun ρ w=>R (.returned (ρ 4)) w) [(0,(fun ρ w=>b3 R  w))]
theorem l6_ok (h:l6 R (ρ 0) (ρ 1) (ρ 5) w):cP7 R (blkC p2) (q3 R) ρ w:=by
 unfold l6 at h
 obtain ⟨J,μ,h0,hr⟩:=h
 have e:Code.loop (loopC (blkC p2))=(blkC p2):=by kernel_rfl
 rw [←e]
 refine loopQ (fun ρ' w'=>J (ρ' 5) w') (fun ρ' w'=>μ (ρ' 5) w') h0 fun ρ' w' hA hI=>?_
 have e0:ρ' 0=ρ 0:=Agree.at hA 0 (by kernel_rfl)
 have e1:ρ' 1=ρ 1:=Agree.at hA 1 (by kernel_rfl)
 have h1:=hr (ρ' 5) w' hI
 rw [←e0,←e1] at h1
 exact b7_ok R (fun z5 w1=>J z5 w1∧μ z5 w1<μ (ρ' 5) w') ρ' w' h1
theorem l6_intro (R:EP) (x0 x1 x5:Value) (w:World) (J:VP) (μ:Value→World→Nat) (h0:J x5 w)
  (hr:∀y5 w0,J y5 w0→∀C6:VP,(∀z5 w1,J z5 w1→μ z5 w1<μ y5 w0→C6 z5 w1)→b7 R C6 x0 x1 y5 w0):l6 R x0 x1 x5 w:=by
 unfold l6
 exact ⟨J,μ,h0,fun y5 w0 hJ=>hr y5 w0 hJ _ (fun z5 w1 h1 h2=>⟨h1,h2⟩)⟩
abbrev q4:XP:=QX (fun ρ w=>b3 R  w) (fun ρ w=>R (.returned (ρ 4)) w) []
theorem k5_ok (h:l6 R (ρ 0) (ρ 1) (ρ 5) w):cP7 R p2 (q4 R) ρ w:=by
 have e:Code.block 0 (blkC p2)=p2:=by kernel_rfl
 rw [←e]
 exact blockQ (l6_ok R ρ w h)
def b4 (x0 x1:Value) (w:World) (_r:Tok R:=tok R):Prop :=
 l6 R x0 x1 (.int .i64 0) w
abbrev q5:XP:=QX (fun ρ w=>l6 R (ρ 0) (ρ 1) (ρ 5) w) (fun ρ w=>R (.returned (ρ 4)) w) []
theorem b4_eq:(b4 R (ρ 0) (ρ 1) w)=cP7 R (preC 0 (fstC p1)) (q5 R) ρ w:=by kernel_rfl
theorem b4_ok (h:b4 R (ρ 0) (ρ 1) w):cP7 R (fstC p1) (q4 R) ρ w:=by
 have e:appC 0 (preC 0 (fstC p1)) (dropC 1 (fstC p1))=(fstC p1):=by kernel_rfl
 rw [←e]
 exact appQ (fun ρ w=>l6 R (ρ 0) (ρ 1) (ρ 5) w) 0 ((b4_eq R ρ w).mp h) (fun ρ w h=>k5_ok R ρ w h)
theorem k2_ok (h:b4 R (ρ 0) (ρ 1) w):cP7 R p1 (q1 R) ρ w:=by
 have e:Code.seq (fstC p1) (sndC p1)=p1:=by kernel_rfl
 rw [←e]
 exact seqQ (fun ρ w=>b3 R  w) (b4_ok R ρ w h) (fun ρ w h=>b3_ok R ρ w h)
def b1 (x0 x1:Value) (w:World) (_r:Tok R:=tok R):Prop :=
 RUN prog (pan R) (Builtin.len_ #[25] 3 #[x0]) w fun v1 w2 =>
 RUN prog (pan R) (Builtin.len_ #[25] 3 #[x1]) w2 fun v3 w4 =>
 RUN prog (pan R) (bins .neq 3 (.tmp 7) (.tmp 9) v1 v3) w4 fun v5 w6 =>
 SPL v5
 (R (.returned (.bool Bool.false)) w6)
 (b4 R x0 x1 w6)
abbrev q6:XP:=QX (fun ρ w=>b4 R (ρ 0) (ρ 1) w) (fun ρ w=>R (.returned (ρ 4)) w) []
theorem b1_eq:(b1 R (ρ 0) (ρ 1) w)=cP7 R (preC 1 code) (q6 R) ρ w:=by kernel_rfl
theorem b1_ok (h:b1 R (ρ 0) (ρ 1) w):cP7 R code (q1 R) ρ w:=by
 have e:appC 1 (preC 1 code) (dropC 2 code)=code:=by kernel_rfl
 rw [←e]
 exact appQ (fun ρ w=>b4 R (ρ 0) (ρ 1) w) 1 ((b1_eq R ρ w).mp h) (fun ρ w h=>k2_ok R ρ w h)
/-- What is owed for a call. -/
def run (a0 a1:Value) (w:World):Prop:=b1 R a0 a1 w
theorem calls (R:EP) (a0 a1:Value) (w:World) (h:run R a0 a1 w):Calls prog id #[a0,a1] w R :=
 calls_of_t (f:=id) (fn:=f36) (c:=code) (by kernel_rfl) func36 (by kernel_rfl) (by kernel_rfl) (args:=[a0,a1]) (Nat.le_of_ble_eq_true rfl) rfl (b1_ok R (envOf [a0,a1]) w h)
theorem enters:Enters prog id:=fun args w=>call36 args w
theorem ct {a0 a1:Value} {w:World} {S:VP} (h:∀R:EP,(∀v w,S v w→R (.returned v) w)→run R a0 a1 w):Ct prog id #[a0,a1] w S :=
 Ct.intro enters fun R hR=>calls R a0 a1 w (h R hR)
attribute [irreducible] b3 b7 l6 b4 b1 run
end ref02_SameInts
end Go.Proofs.YtckbgeedlobfaaaDoor
