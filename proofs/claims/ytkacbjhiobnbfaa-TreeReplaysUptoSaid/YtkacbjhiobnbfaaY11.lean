/- Shallow programs, written by a program of ours (gen.py) off the translation; each is tied to the code by the kernel. -/
import Derived.Test.YtkacbjhiobnbfaaY04
set_option linter.unusedVariables false
set_option maxRecDepth 100000
namespace Go.Proofs.Ytkacbjhiobnbfaa
open Go.Px Try Instr

/-! ### presage/show.Row -/
namespace show_Row
noncomputable def code : Code := bodyOf f22
noncomputable abbrev p1 : Code := dropC 2 code
def b3_1 (R : EP) (x6 : Value) (w4 : World) (_r : Tok R := tok R) : Prop :=
 RUN prog R (loadAt 88 x6) w4 fun v5 w6 =>
 NILC v5 fun v7 =>
 RUN prog R (fieldAt 102 v7 0) w6 fun v8 w9 =>
 CALL prog R strings_Builder_String.id #[v8] w9 fun v10 w11 =>
 CALL prog R strings_TrimPrefix.id #[v10, (Value.string ⟨#[32]⟩)] w11 fun v12 w13 =>
 R (.returned (.tuple #[v12, (Value.int .i64 0)])) w13
def b3 (R : EP) (x1 x6 : Value) (w : World) (_r : Tok R := tok R) : Prop :=
 RUN prog R (loadAt 88 x6) w fun v1 w2 =>
 CALL prog R show_page_names.id #[v1, x1] w2 fun v3 w4 =>
 b3_1 R x6 w4
abbrev r0 (R : EP) (z : Env) (w : World) : Prop := R (.returned (.tuple #[(z 4), (z 5)])) w
abbrev q1 (R : EP) : XP := QX (r0 R) (r0 R) []
theorem b3_ok (R : EP) : TI prog R (sndC p1) (q1 R) fun z w => b3 R (z 1) (z 6) w := ofT
noncomputable abbrev p2 : Code := dropC 1 (fstC p1)
def b5 (R : EP) (x1 x6 x19 : Value) (w : World) (_r : Tok R := tok R) : Prop :=
 SPL x19
 (R (.returned (.tuple #[(Value.string ⟨#[]⟩), (Value.int .i64 1)])) w)
 (b3 R x1 x6 w)
abbrev q2 (R : EP) : XP := QX (fun z w => b3 R (z 1) (z 6) w) (r0 R) []
theorem b5_ok (R : EP) : TI prog R p2 (q2 R) fun z w => b5 R (z 1) (z 6) (z 19) w := ofT
def b4_1 (R : EP) (x1 x6 : Value) (w2 : World) (_r : Tok R := tok R) : Prop :=
 RUN prog R (makeFunc (.func show_Row_1.id) #[] #[x6]) w2 fun v3 w4 =>
 CALL prog R slices_ContainsFunc_int_int.id #[x1, v3] w4 fun v5 w6 =>
 b5 R x1 x6 v5 w6
def b4 (R : EP) (x1 x6 x7 : Value) (w : World) (_r : Tok R := tok R) : Prop :=
 RUN prog R (Op.unary .not x7) w fun v1 w2 =>
 SPL v1
 (b5 R x1 x6 (Value.bool true) w2)
 (b4_1 R x1 x6 w2)
theorem b4_ok (R : EP) : TI prog R (fstC p1) (q2 R) fun z w => b4 R (z 1) (z 6) (z 7) w := appT 0 (b5_ok R)
theorem k2_ok (R : EP) : TI prog R p1 (q1 R) fun z w => b4 R (z 1) (z 6) (z 7) w := seqT (b4_ok R) (b3_ok R)
def b1_1 (R : EP) (x1 v5 : Value) (w6 : World) (_r : Tok R := tok R) : Prop :=
 RUN prog R (extract v5 0) w6 fun v7 w8 =>
 RUN prog R (extract v5 1) w8 fun v9 w10 =>
 RUN prog R (alloc 88 true (.tuple #[])) w10 fun v11 w12 =>
 RUNU prog R (storeAt 88 v11 v7) w12 fun w13 =>
 b4 R x1 v11 v9 w13
def b1 (R : EP) (x0 x1 : Value) (w : World) (_r : Tok R := tok R) : Prop :=
 RUN prog R (box 27 x0) w fun v1 w2 =>
 RUN prog R (loadAt 27 v1) w2 fun v3 w4 =>
 CALL prog R show_open.id #[v3] w4 fun v5 w6 =>
 b1_1 R x1 v5 w6
theorem b1_ok (R : EP) : TI prog R code (q1 R) fun z w => b1 R (z 0) (z 1) w := appT 1 (k2_ok R)
def run (R : EP) (a0 a1 : Value) (w : World) : Prop := b1 R a0 a1 w
theorem calls (R : EP) (a0 a1 : Value) (w : World) (h : run R a0 a1 w) : Calls prog id #[a0, a1] w R :=
 calls_of_tt (f := id) (fn := f22) (c := code) (by kernel_rfl) func22 (by kernel_rfl) (by kernel_rfl) (args := [a0, a1]) (Nat.le_of_ble_eq_true rfl) rfl (b1_ok R (envOf [a0, a1]) w h)
theorem enters : Enters prog id := fun args w => call22 args w
theorem ct {a0 a1 : Value} {w : World} {S : VP} (h : ∀ R : EP, (∀ v w, S v w → R (.returned v) w) → run R a0 a1 w) : Ct prog id #[a0, a1] w S :=
 Ct.intro enters fun R hR => calls R a0 a1 w (h R hR)
attribute [irreducible, go_sem] b3_1 b3 b5 b4_1 b4 b1_1 b1 run
end show_Row

/-! ### presage/show.Symbol -/
namespace show_Symbol
noncomputable def code : Code := bodyOf f25
def b1_1 (R : EP) (v7 : Value) (w8 : World) (_r : Tok R := tok R) : Prop :=
 RUN prog R (extract v7 0) w8 fun v9 w10 =>
 RUN prog R (extract v7 1) w10 fun v11 w12 =>
 R (.returned (.tuple #[v9, v11])) w12
def b1 (R : EP) (x0 x1 : Value) (w : World) (_r : Tok R := tok R) : Prop :=
 RUN prog R (box 27 x0) w fun v1 w2 =>
 RUN prog R (loadAt 27 v1) w2 fun v3 w4 =>
 RUN prog R (buildSlice 24 1 #[(0, x1)]) w4 fun v5 w6 =>
 CALL prog R show_Row.id #[v3, v5] w6 fun v7 w8 =>
 b1_1 R v7 w8
abbrev r0 (R : EP) (z : Env) (w : World) : Prop := R (.returned (.tuple #[(z 4), (z 5)])) w
abbrev q1 (R : EP) : XP := QX (r0 R) (r0 R) []
theorem b1_ok (R : EP) : TI prog R code (q1 R) fun z w => b1 R (z 0) (z 1) w := ofT
def run (R : EP) (a0 a1 : Value) (w : World) : Prop := b1 R a0 a1 w
theorem calls (R : EP) (a0 a1 : Value) (w : World) (h : run R a0 a1 w) : Calls prog id #[a0, a1] w R :=
 calls_of_tt (f := id) (fn := f25) (c := code) (by kernel_rfl) func25 (by kernel_rfl) (by kernel_rfl) (args := [a0, a1]) (Nat.le_of_ble_eq_true rfl) rfl (b1_ok R (envOf [a0, a1]) w h)
theorem enters : Enters prog id := fun args w => call25 args w
theorem ct {a0 a1 : Value} {w : World} {S : VP} (h : ∀ R : EP, (∀ v w, S v w → R (.returned v) w) → run R a0 a1 w) : Ct prog id #[a0, a1] w S :=
 Ct.intro enters fun R hR => calls R a0 a1 w (h R hR)
attribute [irreducible, go_sem] b1_1 b1 run
end show_Symbol

/-! ### presage/show.open -/
namespace show_open
noncomputable def code : Code := bodyOf f63
def b1_1 (R : EP) (v1 v6 : Value) (w9 : World) (_r : Tok R := tok R) : Prop :=
 LD prog (loadAt 27 v1) w9 fun v10 =>
 CALL prog R gram_Closed.id #[v10] w9 fun v11 w12 =>
 R (.returned (.tuple #[v6, v11])) w12
def b1_2 (R : EP) (v4 : Value) (w14 : World) (_r : Tok R := tok R) : Prop :=
 (RUN prog R (box 102 v4) w14 fun v15 w16 =>
 R (.returned (.tuple #[v15, (Value.bool true)])) w16) ∧
 (RUN prog R (box 102 v4) w14 fun v17 w18 =>
 R (.returned (.tuple #[v17, (Value.bool true)])) w18)
def b1_3 (R : EP) (v1 v3 v4 : Value) (w14 : World) (_r : Tok R := tok R) : Prop :=
 LD prog (loadAt 27 v1) w14 fun v19 =>
 (RUN prog R (box 102 v4) w14 fun v20 w21 =>
 Sem.run prog (loadAt 27 v1) w21 = .ok v19 w21 ∧ (CALL prog R gram_Closed.id #[v19] w21 fun v22 w23 =>
 R (.returned (.tuple #[v20, v22])) w23)) ∧
 (CALL prog R gram_Closed.id #[v19] w14 fun v24 w25 =>
 Sem.run prog (loadAt 27 v1) w25 = .ok v3 w25 ∧ (RUN prog R (box 102 v4) w25 fun v26 w27 =>
 R (.returned (.tuple #[v26, v24])) w27))
def b1 (R : EP) (x0 : Value) (w : World) (_r : Tok R := tok R) : Prop :=
 RUN prog R (box 27 x0) w fun v1 w2 =>
 LD prog (loadAt 27 v1) (World.drew w2) fun v3 =>
 PUR prog (build 102 #[(1, v3)]) fun v4 =>
 LD prog (loadAt 27 v1) (World.drew w2) fun v5 =>
 (RUN prog R (box 102 v4) (World.drew w2) fun v6 w7 =>
 Sem.run prog (loadAt 27 v1) w7 = .ok v5 w7 ∧ (CALL prog R gram_Valid.id #[v5] w7 fun v8 w9 =>
 SPL v8
 (R (.returned (.tuple #[v6, (Value.bool true)])) w9)
 (b1_1 R v1 v6 w9))) ∧
 (CALL prog R gram_Valid.id #[v5] (World.drew w2) fun v13 w14 =>
 Sem.run prog (loadAt 27 v1) w14 = .ok v3 w14 ∧ (SPL v13
 (b1_2 R v4 w14)
 (b1_3 R v1 v3 v4 w14)))
abbrev r0 (R : EP) (z : Env) (w : World) : Prop := R (.returned (.tuple #[(z 2), (z 3)])) w
abbrev q1 (R : EP) : XP := QX (r0 R) (r0 R) []
theorem b1_ok (R : EP) : TI prog R code (q1 R) fun z w => b1 R (z 0) w := ofT
def run (R : EP) (a0 : Value) (w : World) : Prop := b1 R a0 w
theorem calls (R : EP) (a0 : Value) (w : World) (h : run R a0 w) : Calls prog id #[a0] w R :=
 calls_of_tt (f := id) (fn := f63) (c := code) (by kernel_rfl) func63 (by kernel_rfl) (by kernel_rfl) (args := [a0]) (Nat.le_of_ble_eq_true rfl) rfl (b1_ok R (envOf [a0]) w h)
theorem enters : Enters prog id := fun args w => call63 args w
theorem ct {a0 : Value} {w : World} {S : VP} (h : ∀ R : EP, (∀ v w, S v w → R (.returned v) w) → run R a0 w) : Ct prog id #[a0] w S :=
 Ct.intro enters fun R hR => calls R a0 w (h R hR)
attribute [irreducible, go_sem] b1_1 b1_2 b1_3 b1 run
end show_open

/-! ### (*presage/show.page).words -/
namespace show_page_words
noncomputable def code : Code := bodyOf f67
noncomputable abbrev p1 : Code := dropC 1 code
noncomputable abbrev p2 : Code := loopC (blkC p1)
def b4_1 (R : EP) (C3 : VP) (x0 x8 v5 : Value) (w11 : World) (_r : Tok R := tok R) (_C3 : Tok C3 := tok C3) : Prop :=
 NILC x0 fun v12 =>
 RUN prog R (fieldAt 102 v12 0) w11 fun v13 w14 =>
 CALL prog R strings_Builder_WriteString.id #[v13, v5] w14 fun v15 w16 =>
 RUN prog R (bins .add 3 (.tmp 8) (.const (Value.int .i64 1)) x8 (Value.int .i64 1)) w16 fun v17 w18 =>
 C3 v17 w18
def b4_2 (R : EP) (C3 : VP) (x0 x6 x8 : Value) (w2 : World) (_r : Tok R := tok R) (_C3 : Tok C3 := tok C3) : Prop :=
 RUN prog R (indexAt 23 x6 x8) w2 fun v3 w4 =>
 RUN prog R (loadAt 9 v3) w4 fun v5 w6 =>
 NILC x0 fun v7 =>
 RUN prog R (fieldAt 102 v7 0) w6 fun v8 w9 =>
 CALL prog R strings_Builder_WriteString.id #[v8, (Value.string ⟨#[32]⟩)] w9 fun v10 w11 =>
 b4_1 R C3 x0 x8 v5 w11
def b4 (R : EP) (C3 : VP) (x0 x6 x7 x8 : Value) (w : World) (_r : Tok R := tok R) (_C3 : Tok C3 := tok C3) : Prop :=
 RUN prog R (bins .lss 3 (.tmp 8) (.tmp 7) x8 x7) w fun v1 w2 =>
 SPL v1
 (b4_2 R C3 x0 x6 x8 w2)
 (R (.returned (.tuple #[])) w2)
abbrev r0 (R : EP) (z : Env) (w : World) : Prop := R (.returned (.tuple #[])) w
abbrev q1 (R : EP) (C3 : VP) : XP := QX (fun z w => C3 (z 8) w) (r0 R) [(0, (r0 R))]
theorem b4_ok (R : EP) (C3 : VP) : TI prog R p2 (q1 R C3) fun z w => b4 R C3 (z 0) (z 6) (z 7) (z 8) w := ofT
def l3 (R : EP) (x0 x6 x7 x8 : Value) (w : World) (_r : Tok R := tok R) : Prop :=
 ∃ (J : VP) (μ : Value → World → Nat), J x8 w ∧ ∀ y8 w0, J y8 w0 → b4 R (fun z8 w1 => J z8 w1 ∧ μ z8 w1 < μ y8 w0) x0 x6 x7 y8 w0
abbrev q2 (R : EP) : XP := QX (r0 R) (r0 R) [(0, (r0 R))]
theorem l3_ok (R : EP) : TI prog R (blkC p1) (q2 R) fun z w => l3 R (z 0) (z 6) (z 7) (z 8) w := fun z w h => by
 unfold l3 at h
 obtain ⟨J, μ, h0, hr⟩ := h
 refine loopT (fun z' w' => J (z' 8) w') (fun z' w' => μ (z' 8) w') h0 fun z' w' hA hI => b4_ok R (fun z8 w1 => J z8 w1 ∧ μ z8 w1 < μ (z' 8) w') z' w' ?_
 have h1 := hr (z' 8) w' hI
 rwa [← hA.on 0, ← hA.on 6, ← hA.on 7] at h1
theorem l3_intro (R : EP) (x0 x6 x7 x8 : Value) (w : World) (J : VP) (μ : Value → World → Nat) (h0 : J x8 w)
   (hr : ∀ y8 w0, J y8 w0 → ∀ C3 : VP, (∀ z8 w1, J z8 w1 → μ z8 w1 < μ y8 w0 → C3 z8 w1) → b4 R C3 x0 x6 x7 y8 w0) : l3 R x0 x6 x7 x8 w := by
 unfold l3
 exact ⟨J, μ, h0, fun y8 w0 hJ => hr y8 w0 hJ _ (fun z8 w1 h1 h2 => ⟨h1, h2⟩)⟩
abbrev q3 (R : EP) : XP := QX (r0 R) (r0 R) []
theorem k2_ok (R : EP) : TI prog R p1 (q3 R) fun z w => l3 R (z 0) (z 6) (z 7) (z 8) w := blockT 0 (l3_ok R)
def b1 (R : EP) (x0 x1 : Value) (w : World) (_r : Tok R := tok R) : Prop :=
 RUN prog R (Builtin.len_ #[23] 3 #[x1]) w fun v1 w2 =>
 l3 R x0 x1 v1 (Value.int .i64 0) w2
theorem b1_ok (R : EP) : TI prog R code (q3 R) fun z w => b1 R (z 0) (z 1) w := appT 0 (k2_ok R)
def run (R : EP) (a0 a1 : Value) (w : World) : Prop := b1 R a0 a1 w
theorem calls (R : EP) (a0 a1 : Value) (w : World) (h : run R a0 a1 w) : Calls prog id #[a0, a1] w R := cls_0 func67 [a0, a1] (b1_ok R _ w h)
theorem enters : Enters prog id := fun args w => call67 args w
theorem ct {a0 a1 : Value} {w : World} {S : VP} (h : ∀ R : EP, (∀ v w, S v w → R (.returned v) w) → run R a0 a1 w) : Ct prog id #[a0, a1] w S :=
 Ct.intro enters fun R hR => calls R a0 a1 w (h R hR)
attribute [irreducible] l3
attribute [irreducible, go_sem] b4_1 b4_2 b4 b1 run
end show_page_words

/-! ### (*presage/show.page).name -/
namespace show_page_name
noncomputable def code : Code := bodyOf f69
def b1_1 (R : EP) (x0 x1 : Value) (w13 : World) (_r : Tok R := tok R) : Prop :=
 NILC x0 fun v14 =>
 RUN prog R (fieldAt 102 v14 1) w13 fun v15 w16 =>
 RUN prog R (fieldAt 27 v15 0) w16 fun v17 w18 =>
 RUN prog R (loadAt 22 v17) w18 fun v19 w20 =>
 RUN prog R (indexAt 22 v19 x1) w20 fun v21 w22 =>
 RUN prog R (fieldAt 106 v21 0) w22 fun v23 w24 =>
 RUN prog R (loadAt 9 v23) w24 fun v25 w26 =>
 RUN prog R (bins .add 9 (.const (Value.string ⟨#[39]⟩)) (.tmp 27) (Value.string ⟨#[39]⟩) v25) w26 fun v27 w28 =>
 RUN prog R (bins .add 9 (.tmp 28) (.const (Value.string ⟨#[39]⟩)) v27 (Value.string ⟨#[39]⟩)) w28 fun v29 w30 =>
 R (.returned v29) w30
def b1_2 (R : EP) (x0 x1 v8 : Value) (w45 : World) (_r : Tok R := tok R) : Prop :=
 NILC x0 fun v46 =>
 RUN prog R (fieldAt 102 v46 1) w45 fun v47 w48 =>
 RUN prog R (fieldAt 27 v47 1) w48 fun v49 w50 =>
 RUN prog R (loadAt 23 v49) w50 fun v51 w52 =>
 RUN prog R (bins .sub 3 (.tmp 47) (.tmp 48) x1 v8) w52 fun v53 w54 =>
 RUN prog R (indexAt 23 v51 v53) w54 fun v55 w56 =>
 RUN prog R (loadAt 9 v55) w56 fun v57 w58 =>
 R (.returned v57) w58
def b1_3 (R : EP) (x0 x1 v8 : Value) (w13 : World) (_r : Tok R := tok R) : Prop :=
 NILC x0 fun v31 =>
 RUN prog R (fieldAt 102 v31 1) w13 fun v32 w33 =>
 RUN prog R (fieldAt 27 v32 1) w33 fun v34 w35 =>
 RUN prog R (loadAt 23 v34) w35 fun v36 w37 =>
 RUN prog R (bins .sub 3 (.tmp 36) (.tmp 37) x1 v8) w37 fun v38 w39 =>
 RUN prog R (indexAt 23 v36 v38) w39 fun v40 w41 =>
 RUN prog R (loadAt 9 v40) w41 fun v42 w43 =>
 RUN prog R (bins .eql 9 (.tmp 40) (.const (Value.string ⟨#[]⟩)) v42 (Value.string ⟨#[]⟩)) w43 fun v44 w45 =>
 SPL v44
 (R (.returned (Value.string ⟨#[36, 115, 116, 97, 114, 116]⟩)) w45)
 (b1_2 R x0 x1 v8 w45)
def b1 (R : EP) (x0 x1 : Value) (w : World) (_r : Tok R := tok R) : Prop :=
 NILC x0 fun v1 =>
 RUN prog R (fieldAt 102 v1 1) w fun v2 w3 =>
 RUN prog R (fieldAt 27 v2 0) w3 fun v4 w5 =>
 RUN prog R (loadAt 22 v4) w5 fun v6 w7 =>
 RUN prog R (Builtin.len_ #[22] 3 #[v6]) w7 fun v8 w9 =>
 RUN prog R (bins .eql 3 (.tmp 13) (.const (Value.int .i64 0)) x1 (Value.int .i64 0)) w9 fun v10 w11 =>
 SPL v10
 (R (.returned (Value.string ⟨#[36, 101, 110, 100]⟩)) w11)
 (RUN prog R (bins .lss 3 (.tmp 16) (.tmp 17) x1 v8) w11 fun v12 w13 =>
 SPL v12
 (b1_1 R x0 x1 w13)
 (b1_3 R x0 x1 v8 w13))
abbrev r0 (R : EP) (z : Env) (w : World) : Prop := R (.returned (z 4)) w
abbrev q1 (R : EP) : XP := QX (r0 R) (r0 R) []
theorem b1_ok (R : EP) : TI prog R code (q1 R) fun z w => b1 R (z 0) (z 1) w := ofT
def run (R : EP) (a0 a1 : Value) (w : World) : Prop := b1 R a0 a1 w
theorem calls (R : EP) (a0 a1 : Value) (w : World) (h : run R a0 a1 w) : Calls prog id #[a0, a1] w R := cls_t func69 [a0, a1] (b1_ok R _ w h)
theorem enters : Enters prog id := fun args w => call69 args w
theorem ct {a0 a1 : Value} {w : World} {S : VP} (h : ∀ R : EP, (∀ v w, S v w → R (.returned v) w) → run R a0 a1 w) : Ct prog id #[a0, a1] w S :=
 Ct.intro enters fun R hR => calls R a0 a1 w (h R hR)
attribute [irreducible, go_sem] b1_1 b1_2 b1_3 b1 run
end show_page_name

/-! ### (*strings.Builder).String -/
namespace strings_Builder_String
noncomputable def code : Code := bodyOf f72
def b1 (R : EP) (x0 : Value) (w : World) (_r : Tok R := tok R) : Prop :=
 NILC x0 fun v1 =>
 PUR prog (fieldAt 100 v1 1) fun v2 =>
 LD prog (loadAt 98 v2) (World.drew w) fun v3 =>
 NILC x0 fun v4 =>
 PUR prog (fieldAt 100 v4 1) fun v5 =>
 LD prog (loadAt 98 v5) (World.drew w) fun v6 =>
 LD prog (Builtin.len_ #[98] 3 #[v6]) (World.drew w) fun v7 =>
 RUN prog R (Builtin.unsafeSliceData_ #[98] 155 #[v3]) (World.drew w) fun v8 w9 =>
 Sem.run prog (Builtin.len_ #[98] 3 #[v6]) w9 = .ok v7 w9 ∧ (Sem.run prog (loadAt 98 v5) w9 = .ok v6 w9 ∧ (RUN prog R (Builtin.unsafeString_ #[155, 3] 9 #[v8, v7]) w9 fun v10 w11 =>
 R (.returned v10) w11))
abbrev r0 (R : EP) (z : Env) (w : World) : Prop := R (.returned (z 2)) w
abbrev q1 (R : EP) : XP := QX (r0 R) (r0 R) []
theorem b1_ok (R : EP) : TI prog R code (q1 R) fun z w => b1 R (z 0) w := ofT
def run (R : EP) (a0 : Value) (w : World) : Prop := b1 R a0 w
theorem calls (R : EP) (a0 : Value) (w : World) (h : run R a0 w) : Calls prog id #[a0] w R := cls_t func72 [a0] (b1_ok R _ w h)
theorem enters : Enters prog id := fun args w => call72 args w
theorem ct {a0 : Value} {w : World} {S : VP} (h : ∀ R : EP, (∀ v w, S v w → R (.returned v) w) → run R a0 w) : Ct prog id #[a0] w S :=
 Ct.intro enters fun R hR => calls R a0 w (h R hR)
attribute [irreducible, go_sem] b1 run
end strings_Builder_String

/-! ### presage/show.Row$1 -/
namespace show_Row_1
noncomputable def code : Code := bodyOf f79
def b1 (R : EP) (x0 x1 : Value) (w : World) (_r : Tok R := tok R) : Prop :=
 RUN prog R (loadAt 88 x1) w fun v1 w2 =>
 CALL prog R show_page_isSymbol.id #[v1, x0] w2 fun v3 w4 =>
 RUN prog R (Op.unary .not v3) w4 fun v5 w6 =>
 R (.returned v5) w6
abbrev r0 (R : EP) (z : Env) (w : World) : Prop := R (.returned (z 3)) w
abbrev q1 (R : EP) : XP := QX (r0 R) (r0 R) []
theorem b1_ok (R : EP) : TI prog R code (q1 R) fun z w => b1 R (z 0) (z 1) w := ofT
def run (R : EP) (a0 a1 : Value) (w : World) : Prop := b1 R a0 a1 w
theorem calls (R : EP) (a0 a1 : Value) (w : World) (h : run R a0 a1 w) : Calls prog id #[a0, a1] w R := cls_t func79 [a0, a1] (b1_ok R _ w h)
theorem enters : Enters prog id := fun args w => call79 args w
theorem ct {a0 a1 : Value} {w : World} {S : VP} (h : ∀ R : EP, (∀ v w, S v w → R (.returned v) w) → run R a0 a1 w) : Ct prog id #[a0, a1] w S :=
 Ct.intro enters fun R hR => calls R a0 a1 w (h R hR)
attribute [irreducible, go_sem] b1 run
end show_Row_1

/-! ### (*presage/show.page).isSymbol -/
namespace show_page_isSymbol
noncomputable def code : Code := bodyOf f80
def b1_1 (R : EP) (x0 x1 : Value) (w : World) (_r : Tok R := tok R) : Prop :=
 NILC x0 fun v2 =>
 PUR prog (fieldAt 102 v2 1) fun v3 =>
 PUR prog (fieldAt 27 v3 0) fun v4 =>
 LD prog (loadAt 22 v4) (World.drew w) fun v5 =>
 LD prog (Builtin.len_ #[22] 3 #[v5]) (World.drew w) fun v6 =>
 NILC x0 fun v7 =>
 PUR prog (fieldAt 102 v7 1) fun v8 =>
 PUR prog (fieldAt 27 v8 1) fun v9 =>
 LD prog (loadAt 23 v9) (World.drew w) fun v10 =>
 LD prog (Builtin.len_ #[23] 3 #[v10]) (World.drew w) fun v11 =>
 PUR prog (bins .add 3 (.tmp 14) (.tmp 20) v6 v11) fun v12 =>
 PUR prog (bins .lss 3 (.tmp 8) (.tmp 21) x1 v12) fun v13 =>
 R (.returned v13) (World.drew w)
def b1 (R : EP) (x0 x1 : Value) (w : World) (_r : Tok R := tok R) : Prop :=
 PUR prog (bins .leq 3 (.const (Value.int .i64 0)) (.tmp 5) (Value.int .i64 0) x1) fun v1 =>
 SPL v1
 (b1_1 R x0 x1 w)
 (R (.returned (Value.bool false)) (World.drew w))
abbrev r0 (R : EP) (z : Env) (w : World) : Prop := R (.returned (z 4)) w
abbrev q1 (R : EP) : XP := QX (r0 R) (r0 R) []
theorem b1_ok (R : EP) : TI prog R code (q1 R) fun z w => b1 R (z 0) (z 1) w := ofT
def run (R : EP) (a0 a1 : Value) (w : World) : Prop := b1 R a0 a1 w
theorem calls (R : EP) (a0 a1 : Value) (w : World) (h : run R a0 a1 w) : Calls prog id #[a0, a1] w R := cls_t func80 [a0, a1] (b1_ok R _ w h)
theorem enters : Enters prog id := fun args w => call80 args w
theorem ct {a0 a1 : Value} {w : World} {S : VP} (h : ∀ R : EP, (∀ v w, S v w → R (.returned v) w) → run R a0 a1 w) : Ct prog id #[a0, a1] w S :=
 Ct.intro enters fun R hR => calls R a0 a1 w (h R hR)
attribute [irreducible, go_sem] b1_1 b1 run
end show_page_isSymbol

/-! ### (*presage/show.page).names -/
namespace show_page_names
noncomputable def code : Code := bodyOf f81
noncomputable abbrev p1 : Code := dropC 1 code
noncomputable abbrev p2 : Code := loopC (blkC p1)
def b4_1 (R : EP) (C3 : VP) (x0 x8 v7 : Value) (w8 : World) (_r : Tok R := tok R) (_C3 : Tok C3 := tok C3) : Prop :=
 RUN prog R (buildSlice 23 1 #[(0, v7)]) w8 fun v9 w10 =>
 CALL prog R show_page_words.id #[x0, v9] w10 fun v11 w12 =>
 RUN prog R (bins .add 3 (.tmp 8) (.const (Value.int .i64 1)) x8 (Value.int .i64 1)) w12 fun v13 w14 =>
 C3 v13 w14
def b4_2 (R : EP) (C3 : VP) (x0 x6 x8 : Value) (w2 : World) (_r : Tok R := tok R) (_C3 : Tok C3 := tok C3) : Prop :=
 RUN prog R (indexAt 24 x6 x8) w2 fun v3 w4 =>
 RUN prog R (loadAt 3 v3) w4 fun v5 w6 =>
 CALL prog R show_page_name.id #[x0, v5] w6 fun v7 w8 =>
 b4_1 R C3 x0 x8 v7 w8
def b4 (R : EP) (C3 : VP) (x0 x6 x7 x8 : Value) (w : World) (_r : Tok R := tok R) (_C3 : Tok C3 := tok C3) : Prop :=
 RUN prog R (bins .lss 3 (.tmp 8) (.tmp 7) x8 x7) w fun v1 w2 =>
 SPL v1
 (b4_2 R C3 x0 x6 x8 w2)
 (R (.returned (.tuple #[])) w2)
abbrev r0 (R : EP) (z : Env) (w : World) : Prop := R (.returned (.tuple #[])) w
abbrev q1 (R : EP) (C3 : VP) : XP := QX (fun z w => C3 (z 8) w) (r0 R) [(0, (r0 R))]
theorem b4_ok (R : EP) (C3 : VP) : TI prog R p2 (q1 R C3) fun z w => b4 R C3 (z 0) (z 6) (z 7) (z 8) w := ofT
def l3 (R : EP) (x0 x6 x7 x8 : Value) (w : World) (_r : Tok R := tok R) : Prop :=
 ∃ (J : VP) (μ : Value → World → Nat), J x8 w ∧ ∀ y8 w0, J y8 w0 → b4 R (fun z8 w1 => J z8 w1 ∧ μ z8 w1 < μ y8 w0) x0 x6 x7 y8 w0
abbrev q2 (R : EP) : XP := QX (r0 R) (r0 R) [(0, (r0 R))]
theorem l3_ok (R : EP) : TI prog R (blkC p1) (q2 R) fun z w => l3 R (z 0) (z 6) (z 7) (z 8) w := fun z w h => by
 unfold l3 at h
 obtain ⟨J, μ, h0, hr⟩ := h
 refine loopT (fun z' w' => J (z' 8) w') (fun z' w' => μ (z' 8) w') h0 fun z' w' hA hI => b4_ok R (fun z8 w1 => J z8 w1 ∧ μ z8 w1 < μ (z' 8) w') z' w' ?_
 have h1 := hr (z' 8) w' hI
 rwa [← hA.on 0, ← hA.on 6, ← hA.on 7] at h1
theorem l3_intro (R : EP) (x0 x6 x7 x8 : Value) (w : World) (J : VP) (μ : Value → World → Nat) (h0 : J x8 w)
   (hr : ∀ y8 w0, J y8 w0 → ∀ C3 : VP, (∀ z8 w1, J z8 w1 → μ z8 w1 < μ y8 w0 → C3 z8 w1) → b4 R C3 x0 x6 x7 y8 w0) : l3 R x0 x6 x7 x8 w := by
 unfold l3
 exact ⟨J, μ, h0, fun y8 w0 hJ => hr y8 w0 hJ _ (fun z8 w1 h1 h2 => ⟨h1, h2⟩)⟩
abbrev q3 (R : EP) : XP := QX (r0 R) (r0 R) []
theorem k2_ok (R : EP) : TI prog R p1 (q3 R) fun z w => l3 R (z 0) (z 6) (z 7) (z 8) w := blockT 0 (l3_ok R)
def b1 (R : EP) (x0 x1 : Value) (w : World) (_r : Tok R := tok R) : Prop :=
 RUN prog R (Builtin.len_ #[24] 3 #[x1]) w fun v1 w2 =>
 l3 R x0 x1 v1 (Value.int .i64 0) w2
theorem b1_ok (R : EP) : TI prog R code (q3 R) fun z w => b1 R (z 0) (z 1) w := appT 0 (k2_ok R)
def run (R : EP) (a0 a1 : Value) (w : World) : Prop := b1 R a0 a1 w
theorem calls (R : EP) (a0 a1 : Value) (w : World) (h : run R a0 a1 w) : Calls prog id #[a0, a1] w R := cls_0 func81 [a0, a1] (b1_ok R _ w h)
theorem enters : Enters prog id := fun args w => call81 args w
theorem ct {a0 a1 : Value} {w : World} {S : VP} (h : ∀ R : EP, (∀ v w, S v w → R (.returned v) w) → run R a0 a1 w) : Ct prog id #[a0, a1] w S :=
 Ct.intro enters fun R hR => calls R a0 a1 w (h R hR)
attribute [irreducible] l3
attribute [irreducible, go_sem] b4_1 b4_2 b4 b1 run
end show_page_names

/-! ### strings.TrimPrefix -/
namespace strings_TrimPrefix
noncomputable def code : Code := bodyOf f82
def b1 (R : EP) (x0 x1 : Value) (w : World) (_r : Tok R := tok R) : Prop :=
 CALL prog R internal_stringslite_TrimPrefix.id #[x0, x1] w fun v1 w2 =>
 R (.returned v1) w2
abbrev r0 (R : EP) (z : Env) (w : World) : Prop := R (.returned (z 4)) w
abbrev q1 (R : EP) : XP := QX (r0 R) (r0 R) []
theorem b1_ok (R : EP) : TI prog R code (q1 R) fun z w => b1 R (z 0) (z 1) w := ofT
def run (R : EP) (a0 a1 : Value) (w : World) : Prop := b1 R a0 a1 w
theorem calls (R : EP) (a0 a1 : Value) (w : World) (h : run R a0 a1 w) : Calls prog id #[a0, a1] w R := cls_t func82 [a0, a1] (b1_ok R _ w h)
theorem enters : Enters prog id := fun args w => call82 args w
theorem ct {a0 a1 : Value} {w : World} {S : VP} (h : ∀ R : EP, (∀ v w, S v w → R (.returned v) w) → run R a0 a1 w) : Ct prog id #[a0, a1] w S :=
 Ct.intro enters fun R hR => calls R a0 a1 w (h R hR)
attribute [irreducible, go_sem] b1 run
end strings_TrimPrefix

/-! ### (*strings.Builder).WriteString -/
namespace strings_Builder_WriteString
noncomputable def code : Code := bodyOf f95
def b1_1 (R : EP) (x0 x1 : Value) (w2 : World) (_r : Tok R := tok R) : Prop :=
 NILC x0 fun v3 =>
 RUN prog R (fieldAt 100 v3 1) w2 fun v4 w5 =>
 RUN prog R (loadAt 98 v4) w5 fun v6 w7 =>
 RUN prog R (Builtin.append_ #[98, 9] 98 #[v6, x1]) w7 fun v8 w9 =>
 NILC x0 fun v10 =>
 RUN prog R (fieldAt 100 v10 1) w9 fun v11 w12 =>
 RUNU prog R (storeAt 98 v11 v8) w12 fun w13 =>
 RUN prog R (Builtin.len_ #[9] 3 #[x1]) w13 fun v14 w15 =>
 R (.returned (.tuple #[v14, Value.nilIface])) w15
def b1 (R : EP) (x0 x1 : Value) (w : World) (_r : Tok R := tok R) : Prop :=
 CALL prog R strings_Builder_copyCheck.id #[x0] w fun v1 w2 =>
 b1_1 R x0 x1 w2
abbrev r0 (R : EP) (z : Env) (w : World) : Prop := R (.returned (.tuple #[(z 4), (z 5)])) w
abbrev q1 (R : EP) : XP := QX (r0 R) (r0 R) []
theorem b1_ok (R : EP) : TI prog R code (q1 R) fun z w => b1 R (z 0) (z 1) w := ofT
def run (R : EP) (a0 a1 : Value) (w : World) : Prop := b1 R a0 a1 w
theorem calls (R : EP) (a0 a1 : Value) (w : World) (h : run R a0 a1 w) : Calls prog id #[a0, a1] w R :=
 calls_of_tt (f := id) (fn := f95) (c := code) (by kernel_rfl) func95 (by kernel_rfl) (by kernel_rfl) (args := [a0, a1]) (Nat.le_of_ble_eq_true rfl) rfl (b1_ok R (envOf [a0, a1]) w h)
theorem enters : Enters prog id := fun args w => call95 args w
theorem ct {a0 a1 : Value} {w : World} {S : VP} (h : ∀ R : EP, (∀ v w, S v w → R (.returned v) w) → run R a0 a1 w) : Ct prog id #[a0, a1] w S :=
 Ct.intro enters fun R hR => calls R a0 a1 w (h R hR)
attribute [irreducible, go_sem] b1_1 b1 run
end strings_Builder_WriteString

/-! ### internal/stringslite.TrimPrefix -/
namespace internal_stringslite_TrimPrefix
noncomputable def code : Code := bodyOf f126
def b1_1 (R : EP) (x0 x1 : Value) (w2 : World) (_r : Tok R := tok R) : Prop :=
 RUN prog R (Builtin.len_ #[9] 3 #[x1]) w2 fun v3 w4 =>
 RUN prog R (sliceAt 9 x0 (some v3) none none) w4 fun v5 w6 =>
 R (.returned v5) w6
def b1 (R : EP) (x0 x1 : Value) (w : World) (_r : Tok R := tok R) : Prop :=
 CALL prog R internal_stringslite_HasPrefix.id #[x0, x1] w fun v1 w2 =>
 SPL v1
 (b1_1 R x0 x1 w2)
 (R (.returned x0) w2)
abbrev r0 (R : EP) (z : Env) (w : World) : Prop := R (.returned (z 4)) w
abbrev q1 (R : EP) : XP := QX (r0 R) (r0 R) []
theorem b1_ok (R : EP) : TI prog R code (q1 R) fun z w => b1 R (z 0) (z 1) w := ofT
def run (R : EP) (a0 a1 : Value) (w : World) : Prop := b1 R a0 a1 w
theorem calls (R : EP) (a0 a1 : Value) (w : World) (h : run R a0 a1 w) : Calls prog id #[a0, a1] w R := cls_t func126 [a0, a1] (b1_ok R _ w h)
theorem enters : Enters prog id := fun args w => call126 args w
theorem ct {a0 a1 : Value} {w : World} {S : VP} (h : ∀ R : EP, (∀ v w, S v w → R (.returned v) w) → run R a0 a1 w) : Ct prog id #[a0, a1] w S :=
 Ct.intro enters fun R hR => calls R a0 a1 w (h R hR)
attribute [irreducible, go_sem] b1_1 b1 run
end internal_stringslite_TrimPrefix

/-! ### (*strings.Builder).copyCheck -/
namespace strings_Builder_copyCheck
noncomputable def code : Code := bodyOf f132
def b1_1 (R : EP) (x0 v10 : Value) (w11 : World) (_r : Tok R := tok R) : Prop :=
 RUN prog R (convert 184 97 v10) w11 fun v12 w13 =>
 NILC x0 fun v14 =>
 RUN prog R (fieldAt 100 v14 0) w13 fun v15 w16 =>
 RUNU prog R (storeAt 97 v15 v12) w16 fun w17 =>
 R (.returned (.tuple #[])) w17
def b1_2 (R : EP) (x0 : Value) (w7 : World) (_r : Tok R := tok R) : Prop :=
 RUN prog R (convert 97 184 x0) w7 fun v8 w9 =>
 CALL prog R internal_abi_NoEscape.id #[v8] w9 fun v10 w11 =>
 b1_1 R x0 v10 w11
def b1_3 (R : EP) (x0 : Value) (w7 : World) (_r : Tok R := tok R) : Prop :=
 NILC x0 fun v18 =>
 RUN prog R (fieldAt 100 v18 0) w7 fun v19 w20 =>
 RUN prog R (loadAt 97 v19) w20 fun v21 w22 =>
 RUN prog R (bins .neq 97 (.tmp 17) (.tmp 18) v21 x0) w22 fun v23 w24 =>
 SPL v23
 (False)
 (R (.returned (.tuple #[])) w24)
def b1 (R : EP) (x0 : Value) (w : World) (_r : Tok R := tok R) : Prop :=
 NILC x0 fun v1 =>
 RUN prog R (fieldAt 100 v1 0) w fun v2 w3 =>
 RUN prog R (loadAt 97 v2) w3 fun v4 w5 =>
 RUN prog R (bins .eql 97 (.tmp 5) (.const (Value.pointer Option.none)) v4 (Value.pointer Option.none)) w5 fun v6 w7 =>
 SPL v6
 (b1_2 R x0 w7)
 (b1_3 R x0 w7)
abbrev r0 (R : EP) (z : Env) (w : World) : Prop := R (.returned (.tuple #[])) w
abbrev q1 (R : EP) : XP := QX (r0 R) (r0 R) []
theorem b1_ok (R : EP) : TI prog R code (q1 R) fun z w => b1 R (z 0) w := ofT
def run (R : EP) (a0 : Value) (w : World) : Prop := b1 R a0 w
theorem calls (R : EP) (a0 : Value) (w : World) (h : run R a0 w) : Calls prog id #[a0] w R := cls_0 func132 [a0] (b1_ok R _ w h)
theorem enters : Enters prog id := fun args w => call132 args w
theorem ct {a0 : Value} {w : World} {S : VP} (h : ∀ R : EP, (∀ v w, S v w → R (.returned v) w) → run R a0 w) : Ct prog id #[a0] w S :=
 Ct.intro enters fun R hR => calls R a0 w (h R hR)
attribute [irreducible, go_sem] b1_1 b1_2 b1_3 b1 run
end strings_Builder_copyCheck

/-! ### internal/stringslite.HasPrefix -/
namespace internal_stringslite_HasPrefix
noncomputable def code : Code := bodyOf f153
def b1_1 (R : EP) (x0 x1 : Value) (w6 : World) (_r : Tok R := tok R) : Prop :=
 RUN prog R (Builtin.len_ #[9] 3 #[x1]) w6 fun v7 w8 =>
 RUN prog R (sliceAt 9 x0 none (some v7) none) w8 fun v9 w10 =>
 RUN prog R (bins .eql 9 (.tmp 14) (.tmp 15) v9 x1) w10 fun v11 w12 =>
 R (.returned v11) w12
def b1 (R : EP) (x0 x1 : Value) (w : World) (_r : Tok R := tok R) : Prop :=
 RUN prog R (Builtin.len_ #[9] 3 #[x0]) w fun v1 w2 =>
 RUN prog R (Builtin.len_ #[9] 3 #[x1]) w2 fun v3 w4 =>
 RUN prog R (bins .geq 3 (.tmp 6) (.tmp 8) v1 v3) w4 fun v5 w6 =>
 SPL v5
 (b1_1 R x0 x1 w6)
 (R (.returned (Value.bool false)) w6)
abbrev r0 (R : EP) (z : Env) (w : World) : Prop := R (.returned (z 4)) w
abbrev q1 (R : EP) : XP := QX (r0 R) (r0 R) []
theorem b1_ok (R : EP) : TI prog R code (q1 R) fun z w => b1 R (z 0) (z 1) w := ofT
def run (R : EP) (a0 a1 : Value) (w : World) : Prop := b1 R a0 a1 w
theorem calls (R : EP) (a0 a1 : Value) (w : World) (h : run R a0 a1 w) : Calls prog id #[a0, a1] w R := cls_t func153 [a0, a1] (b1_ok R _ w h)
theorem enters : Enters prog id := fun args w => call153 args w
theorem ct {a0 a1 : Value} {w : World} {S : VP} (h : ∀ R : EP, (∀ v w, S v w → R (.returned v) w) → run R a0 a1 w) : Ct prog id #[a0, a1] w S :=
 Ct.intro enters fun R hR => calls R a0 a1 w (h R hR)
attribute [irreducible, go_sem] b1_1 b1 run
end internal_stringslite_HasPrefix
end Go.Proofs.Ytkacbjhiobnbfaa
