/- Shallow programs, written by a program of ours (gen.py) off the translation; each is tied to the code by the kernel. -/
import Derived.Test.YtkacbjhiobnbfaaY04
set_option linter.unusedVariables false
set_option maxRecDepth 100000
namespace Go.Proofs.Ytkacbjhiobnbfaa
open Go.Px Try Instr

/-! ### slices.IsSorted[[]int,int] -/
namespace slices_IsSorted_int_int
noncomputable def code : Code := bodyOf f108
noncomputable abbrev p1 : Code := dropC 1 code

def b3 (R : EP) (w : World) (_r : Tok R := tok R) : Prop :=
 R (.returned (Value.bool true)) w
abbrev r0 (R : EP) (z : Env) (w : World) : Prop := R (.returned (z 2)) w
abbrev q1 (R : EP) : XP := QX (r0 R) (r0 R) []
theorem b3_ok (R : EP) : TI prog R (sndC p1) (q1 R) fun z w => b3 R w := ofT
noncomputable abbrev p2 : Code := dropC 1 (fstC p1)
noncomputable abbrev p3 : Code := loopC (blkC p2)
def b7_1 (R : EP) (C6 : VP) (x0 x3 : Value) (w2 : World) (_r : Tok R := tok R) (_C6 : Tok C6 := tok C6) : Prop :=
 PUR prog (indexAt 24 x0 x3) fun v3 =>
 LD prog (loadAt 3 v3) (World.drew w2) fun v4 =>
 PUR prog (bins .sub 3 (.tmp 16) (.const (Value.int .i64 1)) x3 (Value.int .i64 1)) fun v5 =>
 PUR prog (indexAt 24 x0 v5) fun v6 =>
 LD prog (loadAt 3 v6) (World.drew w2) fun v7 =>
 CALL prog R cmp_Less_int.id #[v4, v7] (World.drew w2) fun v8 w9 =>
 SPL v8
 (R (.returned (Value.bool false)) w9)
 (RUN prog R (bins .sub 3 (.tmp 9) (.const (Value.int .i64 1)) x3 (Value.int .i64 1)) w9 fun v10 w11 =>
 C6 v10 w11)
def b7 (R : EP) (C6 : VP) (x0 x3 : Value) (w : World) (_r : Tok R := tok R) (_C6 : Tok C6 := tok C6) : Prop :=
 RUN prog R (bins .gtr 3 (.tmp 7) (.const (Value.int .i64 0)) x3 (Value.int .i64 0)) w fun v1 w2 =>
 SPL v1
 (b7_1 R C6 x0 x3 w2)
 (b3 R w2)
abbrev q2 (R : EP) (C6 : VP) : XP := QX (fun z w => C6 (z 3) w) (r0 R) [(0, (fun z w => b3 R  w))]
theorem b7_ok (R : EP) (C6 : VP) : TI prog R p3 (q2 R C6) fun z w => b7 R C6 (z 0) (z 3) w := ofT
def l6 (R : EP) (x0 x3 : Value) (w : World) (_r : Tok R := tok R) : Prop :=
 ∃ (J : VP) (μ : Value → World → Nat), J x3 w ∧ ∀ y3 w0, J y3 w0 → b7 R (fun z3 w1 => J z3 w1 ∧ μ z3 w1 < μ y3 w0) x0 y3 w0
abbrev q3 (R : EP) : XP := QX (fun z w => b3 R  w) (r0 R) [(0, (fun z w => b3 R  w))]
theorem l6_ok (R : EP) : TI prog R (blkC p2) (q3 R) fun z w => l6 R (z 0) (z 3) w := fun z w h => by
 unfold l6 at h
 obtain ⟨J, μ, h0, hr⟩ := h
 refine loopT (fun z' w' => J (z' 3) w') (fun z' w' => μ (z' 3) w') h0 fun z' w' hA hI => b7_ok R (fun z3 w1 => J z3 w1 ∧ μ z3 w1 < μ (z' 3) w') z' w' ?_
 have h1 := hr (z' 3) w' hI
 rwa [← hA.on 0] at h1
theorem l6_intro (R : EP) (x0 x3 : Value) (w : World) (J : VP) (μ : Value → World → Nat) (h0 : J x3 w)
   (hr : ∀ y3 w0, J y3 w0 → ∀ C6 : VP, (∀ z3 w1, J z3 w1 → μ z3 w1 < μ y3 w0 → C6 z3 w1) → b7 R C6 x0 y3 w0) : l6 R x0 x3 w := by
 unfold l6
 exact ⟨J, μ, h0, fun y3 w0 hJ => hr y3 w0 hJ _ (fun z3 w1 h1 h2 => ⟨h1, h2⟩)⟩
abbrev q4 (R : EP) : XP := QX (fun z w => b3 R  w) (r0 R) []
theorem k5_ok (R : EP) : TI prog R p2 (q4 R) fun z w => l6 R (z 0) (z 3) w := blockT 0 (l6_ok R)
def b4 (R : EP) (x0 : Value) (w : World) (_r : Tok R := tok R) : Prop :=
 RUN prog R (Builtin.len_ #[24] 3 #[x0]) w fun v1 w2 =>
 RUN prog R (bins .sub 3 (.tmp 5) (.const (Value.int .i64 1)) v1 (Value.int .i64 1)) w2 fun v3 w4 =>
 l6 R x0 v3 w4
theorem b4_ok (R : EP) : TI prog R (fstC p1) (q4 R) fun z w => b4 R (z 0) w := appT 0 (k5_ok R)
theorem k2_ok (R : EP) : TI prog R p1 (q1 R) fun z w => b4 R (z 0) w := seqT (b4_ok R) (b3_ok R)
def b1 (R : EP) (x0 : Value) (w : World) (_r : Tok R := tok R) : Prop :=
 b4 R x0 w
theorem b1_ok (R : EP) : TI prog R code (q1 R) fun z w => b1 R (z 0) w := appT 0 (k2_ok R)
def run (R : EP) (a0 : Value) (w : World) : Prop := b1 R a0 w
theorem calls (R : EP) (a0 : Value) (w : World) (h : run R a0 w) : Calls prog id #[a0] w R := cls_t func108 [a0] (b1_ok R _ w h)
theorem enters : Enters prog id := fun args w => call108 args w
theorem ct {a0 : Value} {w : World} {S : VP} (h : ∀ R : EP, (∀ v w, S v w → R (.returned v) w) → run R a0 w) : Ct prog id #[a0] w S :=
 Ct.intro enters fun R hR => calls R a0 w (h R hR)
attribute [irreducible] l6
attribute [irreducible, go_sem] b3 b7_1 b7 b4 b1 run
end slices_IsSorted_int_int

/-! ### slices.Reverse[[]int,int] -/
namespace slices_Reverse_int_int
noncomputable def code : Code := bodyOf f129
noncomputable abbrev p1 : Code := dropC 1 code
noncomputable abbrev p2 : Code := loopC (blkC p1)
def b4_1 (R : EP) (C3 : Value → VP) (x0 x2 x3 : Value) (w2 : World) (_r : Tok R := tok R) (_C3 : Tok C3 := tok C3) : Prop :=
 PUR prog (indexAt 24 x0 x3) fun v3 =>
 LD prog (loadAt 3 v3) (World.drew w2) fun v4 =>
 PUR prog (indexAt 24 x0 x2) fun v5 =>
 LD prog (loadAt 3 v5) (World.drew w2) fun v6 =>
 PUR prog (indexAt 24 x0 x2) fun v7 =>
 RUNU prog R (storeAt 3 v7 v4) (World.drew w2) fun w8 =>
 PUR prog (indexAt 24 x0 x3) fun v9 =>
 RUNU prog R (storeAt 3 v9 v6) w8 fun w10 =>
 RUN prog R (bins .add 3 (.tmp 10) (.const (Value.int .i64 1)) x2 (Value.int .i64 1)) w10 fun v11 w12 =>
 RUN prog R (bins .sub 3 (.tmp 12) (.const (Value.int .i64 1)) x3 (Value.int .i64 1)) w12 fun v13 w14 =>
 C3 v11 v13 w14
def b4 (R : EP) (C3 : Value → VP) (x0 x2 x3 : Value) (w : World) (_r : Tok R := tok R) (_C3 : Tok C3 := tok C3) : Prop :=
 RUN prog R (bins .lss 3 (.tmp 7) (.tmp 8) x2 x3) w fun v1 w2 =>
 SPL v1
 (b4_1 R C3 x0 x2 x3 w2)
 (R (.returned (.tuple #[])) w2)
abbrev r0 (R : EP) (z : Env) (w : World) : Prop := R (.returned (.tuple #[])) w
abbrev q1 (R : EP) (C3 : Value → VP) : XP := QX (fun z w => C3 (z 2) (z 3) w) (r0 R) [(0, (r0 R))]
theorem b4_ok (R : EP) (C3 : Value → VP) : TI prog R p2 (q1 R C3) fun z w => b4 R C3 (z 0) (z 2) (z 3) w := ofT
def l3 (R : EP) (x0 x2 x3 : Value) (w : World) (_r : Tok R := tok R) : Prop :=
 ∃ (J : Value → VP) (μ : Value → Value → World → Nat), J x2 x3 w ∧ ∀ y2 y3 w0, J y2 y3 w0 → b4 R (fun z2 z3 w1 => J z2 z3 w1 ∧ μ z2 z3 w1 < μ y2 y3 w0) x0 y2 y3 w0
abbrev q2 (R : EP) : XP := QX (r0 R) (r0 R) [(0, (r0 R))]
theorem l3_ok (R : EP) : TI prog R (blkC p1) (q2 R) fun z w => l3 R (z 0) (z 2) (z 3) w := fun z w h => by
 unfold l3 at h
 obtain ⟨J, μ, h0, hr⟩ := h
 refine loopT (fun z' w' => J (z' 2) (z' 3) w') (fun z' w' => μ (z' 2) (z' 3) w') h0 fun z' w' hA hI => b4_ok R (fun z2 z3 w1 => J z2 z3 w1 ∧ μ z2 z3 w1 < μ (z' 2) (z' 3) w') z' w' ?_
 have h1 := hr (z' 2) (z' 3) w' hI
 rwa [← hA.on 0] at h1
theorem l3_intro (R : EP) (x0 x2 x3 : Value) (w : World) (J : Value → VP) (μ : Value → Value → World → Nat) (h0 : J x2 x3 w)
   (hr : ∀ y2 y3 w0, J y2 y3 w0 → ∀ C3 : Value → VP, (∀ z2 z3 w1, J z2 z3 w1 → μ z2 z3 w1 < μ y2 y3 w0 → C3 z2 z3 w1) → b4 R C3 x0 y2 y3 w0) : l3 R x0 x2 x3 w := by
 unfold l3
 exact ⟨J, μ, h0, fun y2 y3 w0 hJ => hr y2 y3 w0 hJ _ (fun z2 z3 w1 h1 h2 => ⟨h1, h2⟩)⟩
abbrev q3 (R : EP) : XP := QX (r0 R) (r0 R) []
theorem k2_ok (R : EP) : TI prog R p1 (q3 R) fun z w => l3 R (z 0) (z 2) (z 3) w := blockT 0 (l3_ok R)
def b1 (R : EP) (x0 : Value) (w : World) (_r : Tok R := tok R) : Prop :=
 RUN prog R (Builtin.len_ #[24] 3 #[x0]) w fun v1 w2 =>
 RUN prog R (bins .sub 3 (.tmp 5) (.const (Value.int .i64 1)) v1 (Value.int .i64 1)) w2 fun v3 w4 =>
 l3 R x0 (Value.int .i64 0) v3 w4
theorem b1_ok (R : EP) : TI prog R code (q3 R) fun z w => b1 R (z 0) w := appT 0 (k2_ok R)
def run (R : EP) (a0 : Value) (w : World) : Prop := b1 R a0 w
theorem calls (R : EP) (a0 : Value) (w : World) (h : run R a0 w) : Calls prog id #[a0] w R := cls_0 func129 [a0] (b1_ok R _ w h)
theorem enters : Enters prog id := fun args w => call129 args w
theorem ct {a0 : Value} {w : World} {S : VP} (h : ∀ R : EP, (∀ v w, S v w → R (.returned v) w) → run R a0 w) : Ct prog id #[a0] w S :=
 Ct.intro enters fun R hR => calls R a0 w (h R hR)
attribute [irreducible] l3
attribute [irreducible, go_sem] b4_1 b4 b1 run
end slices_Reverse_int_int

/-! ### slices.EqualFunc[[]int,[]int,int,int] -/
namespace slices_EqualFunc_int_int_int_int
noncomputable def code : Code := bodyOf f130
noncomputable abbrev p1 : Code := dropC 2 code

def b3 (R : EP) (w : World) (_r : Tok R := tok R) : Prop :=
 R (.returned (Value.bool true)) w
abbrev r0 (R : EP) (z : Env) (w : World) : Prop := R (.returned (z 6)) w
abbrev q1 (R : EP) : XP := QX (r0 R) (r0 R) []
theorem b3_ok (R : EP) : TI prog R (sndC p1) (q1 R) fun z w => b3 R w := ofT
noncomputable abbrev p2 : Code := dropC 1 (fstC p1)
noncomputable abbrev p3 : Code := loopC (blkC p2)
def b7_1 (R : EP) (C6 : VP) (x17 v11 : Value) (w12 : World) (_r : Tok R := tok R) (_C6 : Tok C6 := tok C6) : Prop :=
 RUN prog R (Op.unary .not v11) w12 fun v13 w14 =>
 SPL v13
 (R (.returned (Value.bool false)) w14)
 (RUN prog R (bins .add 3 (.tmp 17) (.const (Value.int .i64 1)) x17 (Value.int .i64 1)) w14 fun v15 w16 =>
 C6 v15 w16)
def b7_2 (R : EP) (C6 : VP) (x1 x2 x15 x17 : Value) (w2 : World) (_r : Tok R := tok R) (_C6 : Tok C6 := tok C6) : Prop :=
 RUN prog R (indexAt 24 x15 x17) w2 fun v3 w4 =>
 RUN prog R (loadAt 3 v3) w4 fun v5 w6 =>
 RUN prog R (indexAt 24 x1 x17) w6 fun v7 w8 =>
 RUN prog R (loadAt 3 v7) w8 fun v9 w10 =>
 CALLY prog R x2 [v5, v9] w10 fun v11 w12 =>
 b7_1 R C6 x17 v11 w12
def b7 (R : EP) (C6 : VP) (x1 x2 x15 x16 x17 : Value) (w : World) (_r : Tok R := tok R) (_C6 : Tok C6 := tok C6) : Prop :=
 RUN prog R (bins .lss 3 (.tmp 17) (.tmp 16) x17 x16) w fun v1 w2 =>
 SPL v1
 (b7_2 R C6 x1 x2 x15 x17 w2)
 (b3 R w2)
abbrev q2 (R : EP) (C6 : VP) : XP := QX (fun z w => C6 (z 17) w) (r0 R) [(0, (fun z w => b3 R  w))]
theorem b7_ok (R : EP) (C6 : VP) : TI prog R p3 (q2 R C6) fun z w => b7 R C6 (z 1) (z 2) (z 15) (z 16) (z 17) w := ofT
def l6 (R : EP) (x1 x2 x15 x16 x17 : Value) (w : World) (_r : Tok R := tok R) : Prop :=
 ∃ (J : VP) (μ : Value → World → Nat), J x17 w ∧ ∀ y17 w0, J y17 w0 → b7 R (fun z17 w1 => J z17 w1 ∧ μ z17 w1 < μ y17 w0) x1 x2 x15 x16 y17 w0
abbrev q3 (R : EP) : XP := QX (fun z w => b3 R  w) (r0 R) [(0, (fun z w => b3 R  w))]
theorem l6_ok (R : EP) : TI prog R (blkC p2) (q3 R) fun z w => l6 R (z 1) (z 2) (z 15) (z 16) (z 17) w := fun z w h => by
 unfold l6 at h
 obtain ⟨J, μ, h0, hr⟩ := h
 refine loopT (fun z' w' => J (z' 17) w') (fun z' w' => μ (z' 17) w') h0 fun z' w' hA hI => b7_ok R (fun z17 w1 => J z17 w1 ∧ μ z17 w1 < μ (z' 17) w') z' w' ?_
 have h1 := hr (z' 17) w' hI
 rwa [← hA.on 1, ← hA.on 2, ← hA.on 15, ← hA.on 16] at h1
theorem l6_intro (R : EP) (x1 x2 x15 x16 x17 : Value) (w : World) (J : VP) (μ : Value → World → Nat) (h0 : J x17 w)
   (hr : ∀ y17 w0, J y17 w0 → ∀ C6 : VP, (∀ z17 w1, J z17 w1 → μ z17 w1 < μ y17 w0 → C6 z17 w1) → b7 R C6 x1 x2 x15 x16 y17 w0) : l6 R x1 x2 x15 x16 x17 w := by
 unfold l6
 exact ⟨J, μ, h0, fun y17 w0 hJ => hr y17 w0 hJ _ (fun z17 w1 h1 h2 => ⟨h1, h2⟩)⟩
abbrev q4 (R : EP) : XP := QX (fun z w => b3 R  w) (r0 R) []
theorem k5_ok (R : EP) : TI prog R p2 (q4 R) fun z w => l6 R (z 1) (z 2) (z 15) (z 16) (z 17) w := blockT 0 (l6_ok R)
def b4 (R : EP) (x0 x1 x2 : Value) (w : World) (_r : Tok R := tok R) : Prop :=
 RUN prog R (Builtin.len_ #[24] 3 #[x0]) w fun v1 w2 =>
 l6 R x1 x2 x0 v1 (Value.int .i64 0) w2
theorem b4_ok (R : EP) : TI prog R (fstC p1) (q4 R) fun z w => b4 R (z 0) (z 1) (z 2) w := appT 0 (k5_ok R)
theorem k2_ok (R : EP) : TI prog R p1 (q1 R) fun z w => b4 R (z 0) (z 1) (z 2) w := seqT (b4_ok R) (b3_ok R)
def b1 (R : EP) (x0 x1 x2 : Value) (w : World) (_r : Tok R := tok R) : Prop :=
 RUN prog R (Builtin.len_ #[24] 3 #[x0]) w fun v1 w2 =>
 RUN prog R (Builtin.len_ #[24] 3 #[x1]) w2 fun v3 w4 =>
 RUN prog R (bins .neq 3 (.tmp 11) (.tmp 13) v1 v3) w4 fun v5 w6 =>
 SPL v5
 (R (.returned (Value.bool false)) w6)
 (b4 R x0 x1 x2 w6)
theorem b1_ok (R : EP) : TI prog R code (q1 R) fun z w => b1 R (z 0) (z 1) (z 2) w := appT 1 (k2_ok R)
def run (R : EP) (a0 a1 a2 : Value) (w : World) : Prop := b1 R a0 a1 a2 w
theorem calls (R : EP) (a0 a1 a2 : Value) (w : World) (h : run R a0 a1 a2 w) : Calls prog id #[a0, a1, a2] w R := cls_t func130 [a0, a1, a2] (b1_ok R _ w h)
theorem enters : Enters prog id := fun args w => call130 args w
theorem ct {a0 a1 a2 : Value} {w : World} {S : VP} (h : ∀ R : EP, (∀ v w, S v w → R (.returned v) w) → run R a0 a1 a2 w) : Ct prog id #[a0, a1, a2] w S :=
 Ct.intro enters fun R hR => calls R a0 a1 a2 w (h R hR)
attribute [irreducible] l6
attribute [irreducible, go_sem] b3 b7_1 b7_2 b7 b4 b1 run
end slices_EqualFunc_int_int_int_int

/-! ### slices.ContainsFunc[[]string,string] -/
namespace slices_ContainsFunc_string_string
noncomputable def code : Code := bodyOf f147
def b1 (R : EP) (x0 x1 : Value) (w : World) (_r : Tok R := tok R) : Prop :=
 CALL prog R slices_IndexFunc_string_string.id #[x0, x1] w fun v1 w2 =>
 RUN prog R (bins .geq 3 (.tmp 7) (.const (Value.int .i64 0)) v1 (Value.int .i64 0)) w2 fun v3 w4 =>
 R (.returned v3) w4
abbrev r0 (R : EP) (z : Env) (w : World) : Prop := R (.returned (z 4)) w
abbrev q1 (R : EP) : XP := QX (r0 R) (r0 R) []
theorem b1_ok (R : EP) : TI prog R code (q1 R) fun z w => b1 R (z 0) (z 1) w := ofT
def run (R : EP) (a0 a1 : Value) (w : World) : Prop := b1 R a0 a1 w
theorem calls (R : EP) (a0 a1 : Value) (w : World) (h : run R a0 a1 w) : Calls prog id #[a0, a1] w R := cls_t func147 [a0, a1] (b1_ok R _ w h)
theorem enters : Enters prog id := fun args w => call147 args w
theorem ct {a0 a1 : Value} {w : World} {S : VP} (h : ∀ R : EP, (∀ v w, S v w → R (.returned v) w) → run R a0 a1 w) : Ct prog id #[a0, a1] w S :=
 Ct.intro enters fun R hR => calls R a0 a1 w (h R hR)
attribute [irreducible, go_sem] b1 run
end slices_ContainsFunc_string_string

/-! ### slices.Contains[[]int,int] -/
namespace slices_Contains_int_int
noncomputable def code : Code := bodyOf f149
def b1 (R : EP) (x0 x1 : Value) (w : World) (_r : Tok R := tok R) : Prop :=
 CALL prog R slices_Index_int_int.id #[x0, x1] w fun v1 w2 =>
 RUN prog R (bins .geq 3 (.tmp 7) (.const (Value.int .i64 0)) v1 (Value.int .i64 0)) w2 fun v3 w4 =>
 R (.returned v3) w4
abbrev r0 (R : EP) (z : Env) (w : World) : Prop := R (.returned (z 4)) w
abbrev q1 (R : EP) : XP := QX (r0 R) (r0 R) []
theorem b1_ok (R : EP) : TI prog R code (q1 R) fun z w => b1 R (z 0) (z 1) w := ofT
def run (R : EP) (a0 a1 : Value) (w : World) : Prop := b1 R a0 a1 w
theorem calls (R : EP) (a0 a1 : Value) (w : World) (h : run R a0 a1 w) : Calls prog id #[a0, a1] w R := cls_t func149 [a0, a1] (b1_ok R _ w h)
theorem enters : Enters prog id := fun args w => call149 args w
theorem ct {a0 a1 : Value} {w : World} {S : VP} (h : ∀ R : EP, (∀ v w, S v w → R (.returned v) w) → run R a0 a1 w) : Ct prog id #[a0, a1] w S :=
 Ct.intro enters fun R hR => calls R a0 a1 w (h R hR)
attribute [irreducible, go_sem] b1 run
end slices_Contains_int_int

/-! ### cmp.Less[int] -/
namespace cmp_Less_int
noncomputable def code : Code := bodyOf f150
def b1_1 (R : EP) (x0 x1 v3 : Value) (w4 : World) (_r : Tok R := tok R) : Prop :=
 RUN prog R (Op.unary .not v3) w4 fun v5 w6 =>
 SPL v5
 (R (.returned (Value.bool true)) w6)
 (RUN prog R (bins .lss 3 (.tmp 13) (.tmp 14) x0 x1) w6 fun v7 w8 =>
 R (.returned v7) w8)
def b1_2 (R : EP) (x0 x1 v1 : Value) (w2 : World) (_r : Tok R := tok R) : Prop :=
 SPL v1
 (CALL prog R cmp_isNaN_int.id #[x1] w2 fun v3 w4 =>
 b1_1 R x0 x1 v3 w4)
 (RUN prog R (bins .lss 3 (.tmp 13) (.tmp 14) x0 x1) w2 fun v9 w10 =>
 R (.returned v9) w10)
def b1 (R : EP) (x0 x1 : Value) (w : World) (_r : Tok R := tok R) : Prop :=
 CALL prog R cmp_isNaN_int.id #[x0] w fun v1 w2 =>
 b1_2 R x0 x1 v1 w2
abbrev r0 (R : EP) (z : Env) (w : World) : Prop := R (.returned (z 4)) w
abbrev q1 (R : EP) : XP := QX (r0 R) (r0 R) []
theorem b1_ok (R : EP) : TI prog R code (q1 R) fun z w => b1 R (z 0) (z 1) w := ofT
def run (R : EP) (a0 a1 : Value) (w : World) : Prop := b1 R a0 a1 w
theorem calls (R : EP) (a0 a1 : Value) (w : World) (h : run R a0 a1 w) : Calls prog id #[a0, a1] w R := cls_t func150 [a0, a1] (b1_ok R _ w h)
theorem enters : Enters prog id := fun args w => call150 args w
theorem ct {a0 a1 : Value} {w : World} {S : VP} (h : ∀ R : EP, (∀ v w, S v w → R (.returned v) w) → run R a0 a1 w) : Ct prog id #[a0, a1] w S :=
 Ct.intro enters fun R hR => calls R a0 a1 w (h R hR)
attribute [irreducible, go_sem] b1_1 b1_2 b1 run
end cmp_Less_int

/-! ### slices.IndexFunc[[]string,string] -/
namespace slices_IndexFunc_string_string
noncomputable def code : Code := bodyOf f159
noncomputable abbrev p1 : Code := dropC 1 code

def b3 (R : EP) (w : World) (_r : Tok R := tok R) : Prop :=
 R (.returned (Value.int .i64 (-1))) w
abbrev r0 (R : EP) (z : Env) (w : World) : Prop := R (.returned (z 4)) w
abbrev q1 (R : EP) : XP := QX (r0 R) (r0 R) []
theorem b3_ok (R : EP) : TI prog R (sndC p1) (q1 R) fun z w => b3 R w := ofT
noncomputable abbrev p2 : Code := dropC 1 (fstC p1)
noncomputable abbrev p3 : Code := loopC (blkC p2)
def b7_1 (R : EP) (C6 : VP) (x0 x1 x8 : Value) (w2 : World) (_r : Tok R := tok R) (_C6 : Tok C6 := tok C6) : Prop :=
 RUN prog R (indexAt 23 x0 x8) w2 fun v3 w4 =>
 RUN prog R (loadAt 9 v3) w4 fun v5 w6 =>
 CALLY prog R x1 [v5] w6 fun v7 w8 =>
 SPL v7
 (R (.returned x8) w8)
 (RUN prog R (bins .add 3 (.tmp 8) (.const (Value.int .i64 1)) x8 (Value.int .i64 1)) w8 fun v9 w10 =>
 C6 v9 w10)
def b7 (R : EP) (C6 : VP) (x0 x1 x7 x8 : Value) (w : World) (_r : Tok R := tok R) (_C6 : Tok C6 := tok C6) : Prop :=
 RUN prog R (bins .lss 3 (.tmp 8) (.tmp 7) x8 x7) w fun v1 w2 =>
 SPL v1
 (b7_1 R C6 x0 x1 x8 w2)
 (b3 R w2)
abbrev q2 (R : EP) (C6 : VP) : XP := QX (fun z w => C6 (z 8) w) (r0 R) [(0, (fun z w => b3 R  w))]
theorem b7_ok (R : EP) (C6 : VP) : TI prog R p3 (q2 R C6) fun z w => b7 R C6 (z 0) (z 1) (z 7) (z 8) w := ofT
def l6 (R : EP) (x0 x1 x7 x8 : Value) (w : World) (_r : Tok R := tok R) : Prop :=
 ∃ (J : VP) (μ : Value → World → Nat), J x8 w ∧ ∀ y8 w0, J y8 w0 → b7 R (fun z8 w1 => J z8 w1 ∧ μ z8 w1 < μ y8 w0) x0 x1 x7 y8 w0
abbrev q3 (R : EP) : XP := QX (fun z w => b3 R  w) (r0 R) [(0, (fun z w => b3 R  w))]
theorem l6_ok (R : EP) : TI prog R (blkC p2) (q3 R) fun z w => l6 R (z 0) (z 1) (z 7) (z 8) w := fun z w h => by
 unfold l6 at h
 obtain ⟨J, μ, h0, hr⟩ := h
 refine loopT (fun z' w' => J (z' 8) w') (fun z' w' => μ (z' 8) w') h0 fun z' w' hA hI => b7_ok R (fun z8 w1 => J z8 w1 ∧ μ z8 w1 < μ (z' 8) w') z' w' ?_
 have h1 := hr (z' 8) w' hI
 rwa [← hA.on 0, ← hA.on 1, ← hA.on 7] at h1
theorem l6_intro (R : EP) (x0 x1 x7 x8 : Value) (w : World) (J : VP) (μ : Value → World → Nat) (h0 : J x8 w)
   (hr : ∀ y8 w0, J y8 w0 → ∀ C6 : VP, (∀ z8 w1, J z8 w1 → μ z8 w1 < μ y8 w0 → C6 z8 w1) → b7 R C6 x0 x1 x7 y8 w0) : l6 R x0 x1 x7 x8 w := by
 unfold l6
 exact ⟨J, μ, h0, fun y8 w0 hJ => hr y8 w0 hJ _ (fun z8 w1 h1 h2 => ⟨h1, h2⟩)⟩
abbrev q4 (R : EP) : XP := QX (fun z w => b3 R  w) (r0 R) []
theorem k5_ok (R : EP) : TI prog R p2 (q4 R) fun z w => l6 R (z 0) (z 1) (z 7) (z 8) w := blockT 0 (l6_ok R)
def b4 (R : EP) (x0 x1 : Value) (w : World) (_r : Tok R := tok R) : Prop :=
 RUN prog R (Builtin.len_ #[23] 3 #[x0]) w fun v1 w2 =>
 l6 R x0 x1 v1 (Value.int .i64 0) w2
theorem b4_ok (R : EP) : TI prog R (fstC p1) (q4 R) fun z w => b4 R (z 0) (z 1) w := appT 0 (k5_ok R)
theorem k2_ok (R : EP) : TI prog R p1 (q1 R) fun z w => b4 R (z 0) (z 1) w := seqT (b4_ok R) (b3_ok R)
def b1 (R : EP) (x0 x1 : Value) (w : World) (_r : Tok R := tok R) : Prop :=
 b4 R x0 x1 w
theorem b1_ok (R : EP) : TI prog R code (q1 R) fun z w => b1 R (z 0) (z 1) w := appT 0 (k2_ok R)
def run (R : EP) (a0 a1 : Value) (w : World) : Prop := b1 R a0 a1 w
theorem calls (R : EP) (a0 a1 : Value) (w : World) (h : run R a0 a1 w) : Calls prog id #[a0, a1] w R := cls_t func159 [a0, a1] (b1_ok R _ w h)
theorem enters : Enters prog id := fun args w => call159 args w
theorem ct {a0 a1 : Value} {w : World} {S : VP} (h : ∀ R : EP, (∀ v w, S v w → R (.returned v) w) → run R a0 a1 w) : Ct prog id #[a0, a1] w S :=
 Ct.intro enters fun R hR => calls R a0 a1 w (h R hR)
attribute [irreducible] l6
attribute [irreducible, go_sem] b3 b7_1 b7 b4 b1 run
end slices_IndexFunc_string_string

/-! ### slices.Index[[]int,int] -/
namespace slices_Index_int_int
noncomputable def code : Code := bodyOf f160
noncomputable abbrev p1 : Code := dropC 1 code

def b3 (R : EP) (w : World) (_r : Tok R := tok R) : Prop :=
 R (.returned (Value.int .i64 (-1))) w
abbrev r0 (R : EP) (z : Env) (w : World) : Prop := R (.returned (z 4)) w
abbrev q1 (R : EP) : XP := QX (r0 R) (r0 R) []
theorem b3_ok (R : EP) : TI prog R (sndC p1) (q1 R) fun z w => b3 R w := ofT
noncomputable abbrev p2 : Code := dropC 1 (fstC p1)
noncomputable abbrev p3 : Code := loopC (blkC p2)
def b7_1 (R : EP) (C6 : VP) (x0 x1 x8 : Value) (w2 : World) (_r : Tok R := tok R) (_C6 : Tok C6 := tok C6) : Prop :=
 RUN prog R (indexAt 24 x0 x8) w2 fun v3 w4 =>
 RUN prog R (loadAt 3 v3) w4 fun v5 w6 =>
 RUN prog R (bins .eql 3 (.tmp 11) (.tmp 15) x1 v5) w6 fun v7 w8 =>
 SPL v7
 (R (.returned x8) w8)
 (RUN prog R (bins .add 3 (.tmp 8) (.const (Value.int .i64 1)) x8 (Value.int .i64 1)) w8 fun v9 w10 =>
 C6 v9 w10)
def b7 (R : EP) (C6 : VP) (x0 x1 x7 x8 : Value) (w : World) (_r : Tok R := tok R) (_C6 : Tok C6 := tok C6) : Prop :=
 RUN prog R (bins .lss 3 (.tmp 8) (.tmp 7) x8 x7) w fun v1 w2 =>
 SPL v1
 (b7_1 R C6 x0 x1 x8 w2)
 (b3 R w2)
abbrev q2 (R : EP) (C6 : VP) : XP := QX (fun z w => C6 (z 8) w) (r0 R) [(0, (fun z w => b3 R  w))]
theorem b7_ok (R : EP) (C6 : VP) : TI prog R p3 (q2 R C6) fun z w => b7 R C6 (z 0) (z 1) (z 7) (z 8) w := ofT
def l6 (R : EP) (x0 x1 x7 x8 : Value) (w : World) (_r : Tok R := tok R) : Prop :=
 ∃ (J : VP) (μ : Value → World → Nat), J x8 w ∧ ∀ y8 w0, J y8 w0 → b7 R (fun z8 w1 => J z8 w1 ∧ μ z8 w1 < μ y8 w0) x0 x1 x7 y8 w0
abbrev q3 (R : EP) : XP := QX (fun z w => b3 R  w) (r0 R) [(0, (fun z w => b3 R  w))]
theorem l6_ok (R : EP) : TI prog R (blkC p2) (q3 R) fun z w => l6 R (z 0) (z 1) (z 7) (z 8) w := fun z w h => by
 unfold l6 at h
 obtain ⟨J, μ, h0, hr⟩ := h
 refine loopT (fun z' w' => J (z' 8) w') (fun z' w' => μ (z' 8) w') h0 fun z' w' hA hI => b7_ok R (fun z8 w1 => J z8 w1 ∧ μ z8 w1 < μ (z' 8) w') z' w' ?_
 have h1 := hr (z' 8) w' hI
 rwa [← hA.on 0, ← hA.on 1, ← hA.on 7] at h1
theorem l6_intro (R : EP) (x0 x1 x7 x8 : Value) (w : World) (J : VP) (μ : Value → World → Nat) (h0 : J x8 w)
   (hr : ∀ y8 w0, J y8 w0 → ∀ C6 : VP, (∀ z8 w1, J z8 w1 → μ z8 w1 < μ y8 w0 → C6 z8 w1) → b7 R C6 x0 x1 x7 y8 w0) : l6 R x0 x1 x7 x8 w := by
 unfold l6
 exact ⟨J, μ, h0, fun y8 w0 hJ => hr y8 w0 hJ _ (fun z8 w1 h1 h2 => ⟨h1, h2⟩)⟩
abbrev q4 (R : EP) : XP := QX (fun z w => b3 R  w) (r0 R) []
theorem k5_ok (R : EP) : TI prog R p2 (q4 R) fun z w => l6 R (z 0) (z 1) (z 7) (z 8) w := blockT 0 (l6_ok R)
def b4 (R : EP) (x0 x1 : Value) (w : World) (_r : Tok R := tok R) : Prop :=
 RUN prog R (Builtin.len_ #[24] 3 #[x0]) w fun v1 w2 =>
 l6 R x0 x1 v1 (Value.int .i64 0) w2
theorem b4_ok (R : EP) : TI prog R (fstC p1) (q4 R) fun z w => b4 R (z 0) (z 1) w := appT 0 (k5_ok R)
theorem k2_ok (R : EP) : TI prog R p1 (q1 R) fun z w => b4 R (z 0) (z 1) w := seqT (b4_ok R) (b3_ok R)
def b1 (R : EP) (x0 x1 : Value) (w : World) (_r : Tok R := tok R) : Prop :=
 b4 R x0 x1 w
theorem b1_ok (R : EP) : TI prog R code (q1 R) fun z w => b1 R (z 0) (z 1) w := appT 0 (k2_ok R)
def run (R : EP) (a0 a1 : Value) (w : World) : Prop := b1 R a0 a1 w
theorem calls (R : EP) (a0 a1 : Value) (w : World) (h : run R a0 a1 w) : Calls prog id #[a0, a1] w R := cls_t func160 [a0, a1] (b1_ok R _ w h)
theorem enters : Enters prog id := fun args w => call160 args w
theorem ct {a0 a1 : Value} {w : World} {S : VP} (h : ∀ R : EP, (∀ v w, S v w → R (.returned v) w) → run R a0 a1 w) : Ct prog id #[a0, a1] w S :=
 Ct.intro enters fun R hR => calls R a0 a1 w (h R hR)
attribute [irreducible] l6
attribute [irreducible, go_sem] b3 b7_1 b7 b4 b1 run
end slices_Index_int_int

/-! ### cmp.isNaN[int] -/
namespace cmp_isNaN_int
noncomputable def code : Code := bodyOf f161
def b1 (R : EP) (x0 : Value) (w : World) (_r : Tok R := tok R) : Prop :=
 RUN prog R (bins .neq 3 (.tmp 3) (.tmp 4) x0 x0) w fun v1 w2 =>
 R (.returned v1) w2
abbrev r0 (R : EP) (z : Env) (w : World) : Prop := R (.returned (z 2)) w
abbrev q1 (R : EP) : XP := QX (r0 R) (r0 R) []
theorem b1_ok (R : EP) : TI prog R code (q1 R) fun z w => b1 R (z 0) w := ofT
def run (R : EP) (a0 : Value) (w : World) : Prop := b1 R a0 w
theorem calls (R : EP) (a0 : Value) (w : World) (h : run R a0 w) : Calls prog id #[a0] w R := cls_t func161 [a0] (b1_ok R _ w h)
theorem enters : Enters prog id := fun args w => call161 args w
theorem ct {a0 : Value} {w : World} {S : VP} (h : ∀ R : EP, (∀ v w, S v w → R (.returned v) w) → run R a0 w) : Ct prog id #[a0] w S :=
 Ct.intro enters fun R hR => calls R a0 w (h R hR)
attribute [irreducible, go_sem] b1 run
end cmp_isNaN_int
end Go.Proofs.Ytkacbjhiobnbfaa
