/- Shallow programs, written by a program of ours (gen.py) off the translation; each is tied to the code by the kernel. -/
import Derived.Test.YtkacbjhiobnbfaaY04
set_option linter.unusedVariables false
set_option maxRecDepth 100000
namespace Go.Proofs.Ytkacbjhiobnbfaa
open Go.Px Try Instr

/-! ### presage/tree.Frontier -/
namespace tree_Frontier
noncomputable def code : Code := bodyOf f34
def b1_1 (R : EP) (v1 v5 : Value) (w6 : World) (_r : Tok R := tok R) : Prop :=
 RUN prog R (Op.unary .not v5) w6 fun v7 w8 =>
 SPL v7
 (R (.returned (.tuple #[(Value.slice Option.none 0 0), (Value.int .i64 1)])) w8)
 (RUN prog R (loadAt 24 v1) w8 fun v9 w10 =>
 R (.returned (.tuple #[v9, (Value.int .i64 0)])) w10)
def b1 (R : EP) (x0 x1 : Value) (w : World) (_r : Tok R := tok R) : Prop :=
 RUN prog R (alloc 24 true (.tuple #[])) w fun v1 w2 =>
 RUN prog R (makeFunc (.func tree_Frontier_1.id) #[] #[v1]) w2 fun v3 w4 =>
 CALL prog R tree_below.id #[x0, x1, (Value.func (.func tree_left.id) #[] #[]), v3] w4 fun v5 w6 =>
 b1_1 R v1 v5 w6
abbrev r0 (R : EP) (z : Env) (w : World) : Prop := R (.returned (.tuple #[(z 4), (z 5)])) w
abbrev q1 (R : EP) : XP := QX (r0 R) (r0 R) []
theorem b1_ok (R : EP) : TI prog R code (q1 R) fun z w => b1 R (z 0) (z 1) w := ofT
def run (R : EP) (a0 a1 : Value) (w : World) : Prop := b1 R a0 a1 w
theorem calls (R : EP) (a0 a1 : Value) (w : World) (h : run R a0 a1 w) : Calls prog id #[a0, a1] w R :=
 calls_of_tt (f := id) (fn := f34) (c := code) (by kernel_rfl) func34 (by kernel_rfl) (by kernel_rfl) (args := [a0, a1]) (Nat.le_of_ble_eq_true rfl) rfl (b1_ok R (envOf [a0, a1]) w h)
theorem enters : Enters prog id := fun args w => call34 args w
theorem ct {a0 a1 : Value} {w : World} {S : VP} (h : ∀ R : EP, (∀ v w, S v w → R (.returned v) w) → run R a0 a1 w) : Ct prog id #[a0, a1] w S :=
 Ct.intro enters fun R hR => calls R a0 a1 w (h R hR)
attribute [irreducible, go_sem] b1_1 b1 run
end tree_Frontier

/-! ### presage/tree.Rightmost -/
namespace tree_Rightmost
noncomputable def code : Code := bodyOf f35
def b1_1 (R : EP) (v1 v5 : Value) (w6 : World) (_r : Tok R := tok R) : Prop :=
 RUN prog R (Op.unary .not v5) w6 fun v7 w8 =>
 SPL v7
 (R (.returned (.tuple #[(Value.slice Option.none 0 0), (Value.int .i64 1)])) w8)
 (RUN prog R (loadAt 24 v1) w8 fun v9 w10 =>
 R (.returned (.tuple #[v9, (Value.int .i64 0)])) w10)
def b1 (R : EP) (x0 x1 : Value) (w : World) (_r : Tok R := tok R) : Prop :=
 RUN prog R (alloc 24 true (.tuple #[])) w fun v1 w2 =>
 RUN prog R (makeFunc (.func tree_Rightmost_1.id) #[] #[v1]) w2 fun v3 w4 =>
 CALL prog R tree_below.id #[x0, x1, (Value.func (.func tree_right.id) #[] #[]), v3] w4 fun v5 w6 =>
 b1_1 R v1 v5 w6
abbrev r0 (R : EP) (z : Env) (w : World) : Prop := R (.returned (.tuple #[(z 4), (z 5)])) w
abbrev q1 (R : EP) : XP := QX (r0 R) (r0 R) []
theorem b1_ok (R : EP) : TI prog R code (q1 R) fun z w => b1 R (z 0) (z 1) w := ofT
def run (R : EP) (a0 a1 : Value) (w : World) : Prop := b1 R a0 a1 w
theorem calls (R : EP) (a0 a1 : Value) (w : World) (h : run R a0 a1 w) : Calls prog id #[a0, a1] w R :=
 calls_of_tt (f := id) (fn := f35) (c := code) (by kernel_rfl) func35 (by kernel_rfl) (by kernel_rfl) (args := [a0, a1]) (Nat.le_of_ble_eq_true rfl) rfl (b1_ok R (envOf [a0, a1]) w h)
theorem enters : Enters prog id := fun args w => call35 args w
theorem ct {a0 a1 : Value} {w : World} {S : VP} (h : ∀ R : EP, (∀ v w, S v w → R (.returned v) w) → run R a0 a1 w) : Ct prog id #[a0, a1] w S :=
 Ct.intro enters fun R hR => calls R a0 a1 w (h R hR)
attribute [irreducible, go_sem] b1_1 b1 run
end tree_Rightmost

/-! ### presage/tree.Derives -/
namespace tree_Derives
noncomputable def code : Code := bodyOf f41
noncomputable abbrev p1 : Code := dropC 1 code
def b3_1 (R : EP) (x3 v7 : Value) (w13 : World) (_r : Tok R := tok R) : Prop :=
 RUN prog R (loadAt 119 v7) w13 fun v14 w15 =>
 NILC v14 fun v16 =>
 RUN prog R (fieldAt 121 v16 3) w15 fun v17 w18 =>
 RUN prog R (loadAt 3 v17) w18 fun v19 w20 =>
 RUN prog R (Builtin.len_ #[24] 3 #[x3]) w20 fun v21 w22 =>
 RUN prog R (bins .eql 3 (.tmp 54) (.tmp 56) v19 v21) w22 fun v23 w24 =>
 R (.returned v23) w24
def b3 (R : EP) (x1 x2 x3 x4 : Value) (w : World) (_r : Tok R := tok R) : Prop :=
 RUN prog R (loadAt 27 x4) w fun v1 w2 =>
 RUN prog R (build 121 #[(0, v1), (1, x1), (2, x3)]) w2 fun v3 w4 =>
 RUN prog R (box 121 v3) w4 fun v5 w6 =>
 RUN prog R (alloc 119 true (.tuple #[])) w6 fun v7 w8 =>
 RUNU prog R (storeAt 119 v7 v5) w8 fun w9 =>
 RUN prog R (makeFunc (.func tree_Derives_1.id) #[] #[v7]) w9 fun v10 w11 =>
 CALL prog R tree_below.id #[x1, x2, (Value.func (.func tree_left.id) #[] #[]), v10] w11 fun v12 w13 =>
 SPL v12
 (b3_1 R x3 v7 w13)
 (R (.returned (Value.bool false)) w13)
abbrev r0 (R : EP) (z : Env) (w : World) : Prop := R (.returned (z 8)) w
abbrev q1 (R : EP) : XP := QX (r0 R) (r0 R) []
theorem b3_ok (R : EP) : TI prog R (sndC p1) (q1 R) fun z w => b3 R (z 1) (z 2) (z 3) (z 4) w := ofT
noncomputable abbrev p2 : Code := dropC 1 (fstC p1)
def b5 (R : EP) (x1 x2 x3 x4 x40 : Value) (w : World) (_r : Tok R := tok R) : Prop :=
 SPL x40
 (R (.returned (Value.bool false)) w)
 (b3 R x1 x2 x3 x4 w)
abbrev q2 (R : EP) : XP := QX (fun z w => b3 R (z 1) (z 2) (z 3) (z 4) w) (r0 R) []
theorem b5_ok (R : EP) : TI prog R p2 (q2 R) fun z w => b5 R (z 1) (z 2) (z 3) (z 4) (z 40) w := ofT
def b4_1 (R : EP) (x1 x2 x3 x4 : Value) (w3 : World) (_r : Tok R := tok R) : Prop :=
 PUR prog (indexAt 49 x1 x2) fun v14 =>
 PUR prog (fieldAt 61 v14 1) fun v15 =>
 LD prog (loadAt 3 v15) w3 fun v16 =>
 PUR prog (bins .lss 3 (.tmp 38) (.const (Value.int .i64 0)) v16 (Value.int .i64 0)) fun v17 =>
 b5 R x1 x2 x3 x4 v17 w3
def b4_2 (R : EP) (x1 x2 x3 x4 : Value) (w3 : World) (_r : Tok R := tok R) : Prop :=
 PUR prog (indexAt 49 x1 x2) fun v8 =>
 PUR prog (fieldAt 61 v8 0) fun v9 =>
 LD prog (loadAt 3 v9) w3 fun v10 =>
 PUR prog (fieldAt 27 x4 3) fun v11 =>
 LD prog (loadAt 3 v11) w3 fun v12 =>
 PUR prog (bins .neq 3 (.tmp 28) (.tmp 30) v10 v12) fun v13 =>
 SPL v13
 (b5 R x1 x2 x3 x4 (Value.bool true) w3)
 (b4_1 R x1 x2 x3 x4 w3)
def b4_3 (R : EP) (x1 x2 x3 x4 : Value) (w3 : World) (_r : Tok R := tok R) : Prop :=
 LD prog (Builtin.len_ #[49] 3 #[x1]) w3 fun v6 =>
 PUR prog (bins .geq 3 (.tmp 18) (.tmp 20) x2 v6) fun v7 =>
 SPL v7
 (b5 R x1 x2 x3 x4 (Value.bool true) w3)
 (b4_2 R x1 x2 x3 x4 w3)
def b4_4 (R : EP) (x1 x2 x3 x4 v2 : Value) (w3 : World) (_r : Tok R := tok R) : Prop :=
 PUR prog (Op.unary .not v2) fun v4 =>
 SPL v4
 (b5 R x1 x2 x3 x4 (Value.bool true) w3)
 (PUR prog (bins .lss 3 (.tmp 14) (.const (Value.int .i64 0)) x2 (Value.int .i64 0)) fun v5 =>
 SPL v5
 (b5 R x1 x2 x3 x4 (Value.bool true) w3)
 (b4_3 R x1 x2 x3 x4 w3))
def b4 (R : EP) (x1 x2 x3 x4 : Value) (w : World) (_r : Tok R := tok R) : Prop :=
 LD prog (loadAt 27 x4) (World.drew w) fun v1 =>
 CALL prog R gram_Closed.id #[v1] (World.drew w) fun v2 w3 =>
 b4_4 R x1 x2 x3 x4 v2 w3
theorem b4_ok (R : EP) : TI prog R (fstC p1) (q2 R) fun z w => b4 R (z 1) (z 2) (z 3) (z 4) w := appT 0 (b5_ok R)
theorem k2_ok (R : EP) : TI prog R p1 (q1 R) fun z w => b4 R (z 1) (z 2) (z 3) (z 4) w := seqT (b4_ok R) (b3_ok R)
def b1 (R : EP) (x0 x1 x2 x3 : Value) (w : World) (_r : Tok R := tok R) : Prop :=
 RUN prog R (box 27 x0) w fun v1 w2 =>
 b4 R x1 x2 x3 v1 w2
theorem b1_ok (R : EP) : TI prog R code (q1 R) fun z w => b1 R (z 0) (z 1) (z 2) (z 3) w := appT 0 (k2_ok R)
def run (R : EP) (a0 a1 a2 a3 : Value) (w : World) : Prop := b1 R a0 a1 a2 a3 w
theorem calls (R : EP) (a0 a1 a2 a3 : Value) (w : World) (h : run R a0 a1 a2 a3 w) : Calls prog id #[a0, a1, a2, a3] w R := cls_t func41 [a0, a1, a2, a3] (b1_ok R _ w h)
theorem enters : Enters prog id := fun args w => call41 args w
theorem ct {a0 a1 a2 a3 : Value} {w : World} {S : VP} (h : ∀ R : EP, (∀ v w, S v w → R (.returned v) w) → run R a0 a1 a2 a3 w) : Ct prog id #[a0, a1, a2, a3] w S :=
 Ct.intro enters fun R hR => calls R a0 a1 a2 a3 w (h R hR)
attribute [irreducible, go_sem] b3_1 b3 b5 b4_1 b4_2 b4_3 b4_4 b4 b1 run
end tree_Derives

/-! ### presage/tree.Text -/
namespace tree_Text
noncomputable def code : Code := bodyOf f43
noncomputable abbrev p1 : Code := dropC 3 code
def b3_1 (R : EP) (v1 v7 : Value) (w8 : World) (_r : Tok R := tok R) : Prop :=
 RUN prog R (Op.unary .not v7) w8 fun v9 w10 =>
 SPL v9
 (R (.returned (.tuple #[(Value.string ⟨#[]⟩), (Value.int .i64 1)])) w10)
 (CALL prog R strings_Builder_String.id #[v1] w10 fun v11 w12 =>
 R (.returned (.tuple #[v11, (Value.int .i64 0)])) w12)
def b3 (R : EP) (x1 x2 x8 : Value) (w : World) (_r : Tok R := tok R) : Prop :=
 RUN prog R (alloc 100 true (.tuple #[])) w fun v1 w2 =>
 RUN prog R (alloc 24 true (.tuple #[])) w2 fun v3 w4 =>
 RUN prog R (makeFunc (.func tree_Text_1.id) #[] #[x8, v1, v3]) w4 fun v5 w6 =>
 CALL prog R tree_below.id #[x1, x2, (Value.func (.func tree_left.id) #[] #[]), v5] w6 fun v7 w8 =>
 b3_1 R v1 v7 w8
abbrev r0 (R : EP) (z : Env) (w : World) : Prop := R (.returned (.tuple #[(z 6), (z 7)])) w
abbrev q1 (R : EP) : XP := QX (r0 R) (r0 R) []
theorem b3_ok (R : EP) : TI prog R (sndC p1) (q1 R) fun z w => b3 R (z 1) (z 2) (z 8) w := ofT
noncomputable abbrev p2 : Code := dropC 1 (fstC p1)
noncomputable abbrev p3 : Code := loopC (blkC p2)
def b7_1 (R : EP) (C6 : VP) (x8 x25 v3 v5 : Value) (w6 : World) (_r : Tok R := tok R) (_C6 : Tok C6 := tok C6) : Prop :=
 Sem.run prog (loadAt 23 x8) w6 = .ok v3 w6 ∧ (PUR prog (extract v5 0) fun v7 =>
 PUR prog (extract v5 1) fun v8 =>
 PUR prog (indexAt 23 v3 x25) fun v9 =>
 RUNU prog R (storeAt 9 v9 v7) w6 fun w10 =>
 RUN prog R (bins .add 3 (.tmp 25) (.const (Value.int .i64 1)) x25 (Value.int .i64 1)) w10 fun v11 w12 =>
 C6 v11 w12)
def b7_2 (R : EP) (C6 : VP) (x3 x8 x25 : Value) (w2 : World) (_r : Tok R := tok R) (_C6 : Tok C6 := tok C6) : Prop :=
 LD prog (loadAt 23 x8) (World.drew w2) fun v3 =>
 LD prog (loadAt 27 x3) (World.drew w2) fun v4 =>
 CALL prog R show_Symbol.id #[v4, x25] (World.drew w2) fun v5 w6 =>
 b7_1 R C6 x8 x25 v3 v5 w6
def b7 (R : EP) (C6 : VP) (x1 x2 x3 x8 x24 x25 : Value) (w : World) (_r : Tok R := tok R) (_C6 : Tok C6 := tok C6) : Prop :=
 RUN prog R (bins .lss 3 (.tmp 25) (.tmp 24) x25 x24) w fun v1 w2 =>
 SPL v1
 (b7_2 R C6 x3 x8 x25 w2)
 (b3 R x1 x2 x8 w2)
abbrev q2 (R : EP) (C6 : VP) : XP := QX (fun z w => C6 (z 25) w) (r0 R) [(0, (fun z w => b3 R (z 1) (z 2) (z 8) w))]
theorem b7_ok (R : EP) (C6 : VP) : TI prog R p3 (q2 R C6) fun z w => b7 R C6 (z 1) (z 2) (z 3) (z 8) (z 24) (z 25) w := ofT
def l6 (R : EP) (x1 x2 x3 x8 x24 x25 : Value) (w : World) (_r : Tok R := tok R) : Prop :=
 ∃ (J : VP) (μ : Value → World → Nat), J x25 w ∧ ∀ y25 w0, J y25 w0 → b7 R (fun z25 w1 => J z25 w1 ∧ μ z25 w1 < μ y25 w0) x1 x2 x3 x8 x24 y25 w0
abbrev q3 (R : EP) : XP := QX (fun z w => b3 R (z 1) (z 2) (z 8) w) (r0 R) [(0, (fun z w => b3 R (z 1) (z 2) (z 8) w))]
theorem l6_ok (R : EP) : TI prog R (blkC p2) (q3 R) fun z w => l6 R (z 1) (z 2) (z 3) (z 8) (z 24) (z 25) w := fun z w h => by
 unfold l6 at h
 obtain ⟨J, μ, h0, hr⟩ := h
 refine loopT (fun z' w' => J (z' 25) w') (fun z' w' => μ (z' 25) w') h0 fun z' w' hA hI => b7_ok R (fun z25 w1 => J z25 w1 ∧ μ z25 w1 < μ (z' 25) w') z' w' ?_
 have h1 := hr (z' 25) w' hI
 rwa [← hA.on 1, ← hA.on 2, ← hA.on 3, ← hA.on 8, ← hA.on 24] at h1
theorem l6_intro (R : EP) (x1 x2 x3 x8 x24 x25 : Value) (w : World) (J : VP) (μ : Value → World → Nat) (h0 : J x25 w)
   (hr : ∀ y25 w0, J y25 w0 → ∀ C6 : VP, (∀ z25 w1, J z25 w1 → μ z25 w1 < μ y25 w0 → C6 z25 w1) → b7 R C6 x1 x2 x3 x8 x24 y25 w0) : l6 R x1 x2 x3 x8 x24 x25 w := by
 unfold l6
 exact ⟨J, μ, h0, fun y25 w0 hJ => hr y25 w0 hJ _ (fun z25 w1 h1 h2 => ⟨h1, h2⟩)⟩
abbrev q4 (R : EP) : XP := QX (fun z w => b3 R (z 1) (z 2) (z 8) w) (r0 R) []
theorem k5_ok (R : EP) : TI prog R p2 (q4 R) fun z w => l6 R (z 1) (z 2) (z 3) (z 8) (z 24) (z 25) w := blockT 0 (l6_ok R)
def b4 (R : EP) (x1 x2 x3 x8 : Value) (w : World) (_r : Tok R := tok R) : Prop :=
 RUN prog R (loadAt 23 x8) w fun v1 w2 =>
 RUN prog R (Builtin.len_ #[23] 3 #[v1]) w2 fun v3 w4 =>
 l6 R x1 x2 x3 x8 v3 (Value.int .i64 0) w4
theorem b4_ok (R : EP) : TI prog R (fstC p1) (q4 R) fun z w => b4 R (z 1) (z 2) (z 3) (z 8) w := appT 0 (k5_ok R)
theorem k2_ok (R : EP) : TI prog R p1 (q1 R) fun z w => b4 R (z 1) (z 2) (z 3) (z 8) w := seqT (b4_ok R) (b3_ok R)
def b1_1 (R : EP) (x1 x2 v1 : Value) (w8 : World) (_r : Tok R := tok R) : Prop :=
 RUN prog R (fieldAt 27 v1 0) w8 fun v9 w10 =>
 RUN prog R (loadAt 22 v9) w10 fun v11 w12 =>
 RUN prog R (Builtin.len_ #[22] 3 #[v11]) w12 fun v13 w14 =>
 RUN prog R (fieldAt 27 v1 1) w14 fun v15 w16 =>
 RUN prog R (loadAt 23 v15) w16 fun v17 w18 =>
 RUN prog R (Builtin.len_ #[23] 3 #[v17]) w18 fun v19 w20 =>
 RUN prog R (bins .add 3 (.tmp 17) (.tmp 20) v13 v19) w20 fun v21 w22 =>
 RUN prog R (makeSlice 23 v21 v21) w22 fun v23 w24 =>
 RUN prog R (alloc 23 true (.tuple #[])) w24 fun v25 w26 =>
 RUNU prog R (storeAt 23 v25 v23) w26 fun w27 =>
 b4 R x1 x2 v1 v25 w27
def b1 (R : EP) (x0 x1 x2 : Value) (w : World) (_r : Tok R := tok R) : Prop :=
 RUN prog R (box 27 x0) w fun v1 w2 =>
 RUN prog R (loadAt 27 v1) w2 fun v3 w4 =>
 CALL prog R gram_Closed.id #[v3] w4 fun v5 w6 =>
 RUN prog R (Op.unary .not v5) w6 fun v7 w8 =>
 SPL v7
 (R (.returned (.tuple #[(Value.string ⟨#[]⟩), (Value.int .i64 1)])) w8)
 (b1_1 R x1 x2 v1 w8)
theorem b1_ok (R : EP) : TI prog R code (q1 R) fun z w => b1 R (z 0) (z 1) (z 2) w := appT 2 (k2_ok R)
def run (R : EP) (a0 a1 a2 : Value) (w : World) : Prop := b1 R a0 a1 a2 w
theorem calls (R : EP) (a0 a1 a2 : Value) (w : World) (h : run R a0 a1 a2 w) : Calls prog id #[a0, a1, a2] w R :=
 calls_of_tt (f := id) (fn := f43) (c := code) (by kernel_rfl) func43 (by kernel_rfl) (by kernel_rfl) (args := [a0, a1, a2]) (Nat.le_of_ble_eq_true rfl) rfl (b1_ok R (envOf [a0, a1, a2]) w h)
theorem enters : Enters prog id := fun args w => call43 args w
theorem ct {a0 a1 a2 : Value} {w : World} {S : VP} (h : ∀ R : EP, (∀ v w, S v w → R (.returned v) w) → run R a0 a1 a2 w) : Ct prog id #[a0, a1, a2] w S :=
 Ct.intro enters fun R hR => calls R a0 a1 a2 w (h R hR)
attribute [irreducible] l6
attribute [irreducible, go_sem] b3_1 b3 b7_1 b7_2 b7 b4 b1_1 b1 run
end tree_Text

/-! ### presage/tree.New -/
namespace tree_New
noncomputable def code : Code := bodyOf f48

def b1 (R : EP) (w : World) (_r : Tok R := tok R) : Prop :=
 RUN prog R (build 81 #[]) w fun v1 w2 =>
 RUN prog R (box 81 v1) w2 fun v3 w4 =>
 R (.returned v3) w4
abbrev r0 (R : EP) (z : Env) (w : World) : Prop := R (.returned (z 0)) w
abbrev q1 (R : EP) : XP := QX (r0 R) (r0 R) []
theorem b1_ok (R : EP) : TI prog R code (q1 R) fun z w => b1 R w := ofT
def run (R : EP) (w : World) : Prop := b1 R w
theorem calls (R : EP) (w : World) (h : run R w) : Calls prog id #[] w R := cls_t func48 [] (b1_ok R _ w h)
theorem enters : Enters prog id := fun args w => call48 args w
theorem ct {w : World} {S : VP} (h : ∀ R : EP, (∀ v w, S v w → R (.returned v) w) → run R w) : Ct prog id #[] w S :=
 Ct.intro enters fun R hR => calls R w (h R hR)
attribute [irreducible, go_sem] b1 run
end tree_New

/-! ### presage/tree.below -/
namespace tree_below
noncomputable def code : Code := bodyOf f85
noncomputable abbrev p1 : Code := dropC 1 code
noncomputable abbrev p2 : Code := dropC 2 (sndC p1)

def b5 (R : EP) (w : World) (_r : Tok R := tok R) : Prop :=
 R (.returned (Value.bool true)) w
abbrev r0 (R : EP) (z : Env) (w : World) : Prop := R (.returned (z 8)) w
abbrev q1 (R : EP) : XP := QX (r0 R) (r0 R) []
theorem b5_ok (R : EP) : TI prog R (sndC p2) (q1 R) fun z w => b5 R w := ofT
noncomputable abbrev p3 : Code := blkC (fstC p2)
noncomputable abbrev p4 : Code := dropC 1 (loopC p3)
noncomputable abbrev p5 : Code := dropC 2 (blkC p4)
def b12_1 (R : EP) (C7 : World → Prop) (x9 v7 : Value) (w10 : World) (_r : Tok R := tok R) (_C7 : Tok C7 := tok C7) : Prop :=
 CALL prog R tree_walk_push.id #[x9, v7] w10 fun v11 w12 =>
 RUN prog R (Op.unary .not v11) w12 fun v13 w14 =>
 SPL v13
 (R (.returned (Value.bool false)) w14)
 (C7  w14)

def b12 (R : EP) (C7 : World → Prop) (x0 x2 x9 x10 : Value) (w : World) (_r : Tok R := tok R) (_C7 : Tok C7 := tok C7) : Prop :=
 RUN prog R (indexAt 49 x0 x10) w fun v1 w2 =>
 RUN prog R (fieldAt 61 v1 3) w2 fun v3 w4 =>
 RUN prog R (loadAt 24 v3) w4 fun v5 w6 =>
 CALL prog R slices_Clone_int_int.id #[v5] w6 fun v7 w8 =>
 CALLY prog R x2 [v7] w8 fun v9 w10 =>
 b12_1 R C7 x9 v7 w10
abbrev q2 (R : EP) (C7 : World → Prop) : XP := QX (fun z w => C7  w) (r0 R) [(2, (fun z w => C7  w)), (0, (fun z w => b5 R  w))]
theorem b12_ok (R : EP) (C7 : World → Prop) : TI prog R (sndC p5) (q2 R C7) fun z w => b12 R C7 (z 0) (z 2) (z 9) (z 10) w := ofT
noncomputable abbrev p6 : Code := dropC 1 (fstC p5)

def b14 (R : EP) (C7 : World → Prop) (x0 x2 x9 x10 x75 : Value) (w : World) (_r : Tok R := tok R) (_C7 : Tok C7 := tok C7) : Prop :=
 SPL x75
 (R (.returned (Value.bool false)) w)
 (b12 R C7 x0 x2 x9 x10 w)
abbrev q3 (R : EP) (C7 : World → Prop) : XP := QX (fun z w => b12 R C7 (z 0) (z 2) (z 9) (z 10) w) (r0 R) [(2, (fun z w => C7  w)), (0, (fun z w => b5 R  w))]
theorem b14_ok (R : EP) (C7 : World → Prop) : TI prog R p6 (q3 R C7) fun z w => b14 R C7 (z 0) (z 2) (z 9) (z 10) (z 75) w := ofT
def b13_1 (R : EP) (C7 : World → Prop) (x0 x2 x3 x9 x10 : Value) (w4 : World) (_r : Tok R := tok R) (_C7 : Tok C7 := tok C7) : Prop :=
 RUN prog R (indexAt 49 x0 x10) w4 fun v5 w6 =>
 RUN prog R (loadAt 61 v5) w6 fun v7 w8 =>
 CALLY prog R x3 [x10, v7] w8 fun v9 w10 =>
 RUN prog R (Op.unary .not v9) w10 fun v11 w12 =>
 b14 R C7 x0 x2 x9 x10 v11 w12

def b13 (R : EP) (C7 : World → Prop) (x0 x2 x3 x9 x10 : Value) (w : World) (_r : Tok R := tok R) (_C7 : Tok C7 := tok C7) : Prop :=
 CALL prog R tree_walk_sound.id #[x9, x10] w fun v1 w2 =>
 RUN prog R (Op.unary .not v1) w2 fun v3 w4 =>
 SPL v3
 (b14 R C7 x0 x2 x9 x10 (Value.bool true) w4)
 (b13_1 R C7 x0 x2 x3 x9 x10 w4)
theorem b13_ok (R : EP) (C7 : World → Prop) : TI prog R (fstC p5) (q3 R C7) fun z w => b13 R C7 (z 0) (z 2) (z 3) (z 9) (z 10) w := appT 0 (b14_ok R C7)
theorem k11_ok (R : EP) (C7 : World → Prop) : TI prog R p5 (q2 R C7) fun z w => b13 R C7 (z 0) (z 2) (z 3) (z 9) (z 10) w := seqT (b13_ok R C7) (b12_ok R C7)

def b10 (R : EP) (C7 : World → Prop) (x0 x2 x3 x9 : Value) (w : World) (_r : Tok R := tok R) (_C7 : Tok C7 := tok C7) : Prop :=
 NILC x9 fun v1 =>
 PUR prog (fieldAt 160 v1 2) fun v2 =>
 LD prog (loadAt 24 v2) (World.drew w) fun v3 =>
 NILC x9 fun v4 =>
 PUR prog (fieldAt 160 v4 2) fun v5 =>
 LD prog (loadAt 24 v5) (World.drew w) fun v6 =>
 LD prog (Builtin.len_ #[24] 3 #[v6]) (World.drew w) fun v7 =>
 PUR prog (bins .sub 3 (.tmp 44) (.const (Value.int .i64 1)) v7 (Value.int .i64 1)) fun v8 =>
 PUR prog (indexAt 24 v3 v8) fun v9 =>
 LD prog (loadAt 3 v9) (World.drew w) fun v10 =>
 NILC x9 fun v11 =>
 PUR prog (fieldAt 160 v11 2) fun v12 =>
 LD prog (loadAt 24 v12) (World.drew (World.drew w)) fun v13 =>
 NILC x9 fun v14 =>
 PUR prog (fieldAt 160 v14 2) fun v15 =>
 LD prog (loadAt 24 v15) (World.drew (World.drew w)) fun v16 =>
 LD prog (Builtin.len_ #[24] 3 #[v16]) (World.drew (World.drew w)) fun v17 =>
 PUR prog (bins .sub 3 (.tmp 57) (.const (Value.int .i64 1)) v17 (Value.int .i64 1)) fun v18 =>
 PUR prog (sliceAt 24 v13 none (some v18) none) fun v19 =>
 NILC x9 fun v20 =>
 PUR prog (fieldAt 160 v20 2) fun v21 =>
 RUNU prog R (storeAt 24 v21 v19) (World.drew (World.drew w)) fun w22 =>
 b13 R C7 x0 x2 x3 x9 v10 w22
theorem b10_ok (R : EP) (C7 : World → Prop) : TI prog R (blkC p4) (q2 R C7) fun z w => b10 R C7 (z 0) (z 2) (z 3) (z 9) w := appT 1 (k11_ok R C7)
abbrev q4 (R : EP) (C7 : World → Prop) : XP := QX (fun z w => C7  w) (r0 R) [(0, (fun z w => b5 R  w))]
theorem k9_ok (R : EP) (C7 : World → Prop) : TI prog R p4 (q4 R C7) fun z w => b10 R C7 (z 0) (z 2) (z 3) (z 9) w := blockT 1 (b10_ok R C7)

def b8 (R : EP) (C7 : World → Prop) (x0 x2 x3 x9 : Value) (w : World) (_r : Tok R := tok R) (_C7 : Tok C7 := tok C7) : Prop :=
 NILC x9 fun v1 =>
 RUN prog R (fieldAt 160 v1 2) w fun v2 w3 =>
 RUN prog R (loadAt 24 v2) w3 fun v4 w5 =>
 RUN prog R (Builtin.len_ #[24] 3 #[v4]) w5 fun v6 w7 =>
 RUN prog R (bins .gtr 3 (.tmp 34) (.const (Value.int .i64 0)) v6 (Value.int .i64 0)) w7 fun v8 w9 =>
 SPL v8
 (b10 R C7 x0 x2 x3 x9 w9)
 (b5 R w9)
theorem b8_ok (R : EP) (C7 : World → Prop) : TI prog R (loopC p3) (q4 R C7) fun z w => b8 R C7 (z 0) (z 2) (z 3) (z 9) w := appT 0 (k9_ok R C7)

def l7 (R : EP) (x0 x2 x3 x9 : Value) (w : World) (_r : Tok R := tok R) : Prop :=
 ∃ (J : World → Prop) (μ : World → Nat), J  w ∧ ∀ w0, J  w0 → b8 R (fun  w1 => J  w1 ∧ μ  w1 < μ  w0) x0 x2 x3 x9 w0
abbrev q5 (R : EP) : XP := QX (fun z w => b5 R  w) (r0 R) [(0, (fun z w => b5 R  w))]
theorem l7_ok (R : EP) : TI prog R p3 (q5 R) fun z w => l7 R (z 0) (z 2) (z 3) (z 9) w := fun z w h => by
 unfold l7 at h
 obtain ⟨J, μ, h0, hr⟩ := h
 refine loopT (fun z' w' => J  w') (fun z' w' => μ  w') h0 fun z' w' hA hI => b8_ok R (fun  w1 => J  w1 ∧ μ  w1 < μ  w') z' w' ?_
 have h1 := hr  w' hI
 rwa [← hA.on 0, ← hA.on 2, ← hA.on 3, ← hA.on 9] at h1
theorem l7_intro (R : EP) (x0 x2 x3 x9 : Value) (w : World) (J : World → Prop) (μ : World → Nat) (h0 : J  w)
   (hr : ∀ w0, J  w0 → ∀ C7 : World → Prop, (∀  w1, J  w1 → μ  w1 < μ  w0 → C7  w1) → b8 R C7 x0 x2 x3 x9 w0) : l7 R x0 x2 x3 x9 w := by
 unfold l7
 exact ⟨J, μ, h0, fun  w0 hJ => hr  w0 hJ _ (fun  w1 h1 h2 => ⟨h1, h2⟩)⟩
abbrev q6 (R : EP) : XP := QX (fun z w => b5 R  w) (r0 R) []
theorem k6_ok (R : EP) : TI prog R (fstC p2) (q6 R) fun z w => l7 R (z 0) (z 2) (z 3) (z 9) w := blockT 0 (l7_ok R)
theorem k4_ok (R : EP) : TI prog R p2 (q1 R) fun z w => l7 R (z 0) (z 2) (z 3) (z 9) w := seqT (k6_ok R) (b5_ok R)

def b3 (R : EP) (x0 x1 x2 x3 : Value) (w : World) (_r : Tok R := tok R) : Prop :=
 RUN prog R (Builtin.len_ #[49] 3 #[x0]) w fun v1 w2 =>
 RUN prog R (makeSlice 68 v1 v1) w2 fun v3 w4 =>
 RUN prog R (build 160 #[(0, x0), (1, v3)]) w4 fun v5 w6 =>
 RUN prog R (box 160 v5) w6 fun v7 w8 =>
 RUN prog R (buildSlice 24 1 #[(0, x1)]) w8 fun v9 w10 =>
 CALL prog R tree_walk_push.id #[v7, v9] w10 fun v11 w12 =>
 l7 R x0 x2 x3 v7 w12
theorem b3_ok (R : EP) : TI prog R (sndC p1) (q1 R) fun z w => b3 R (z 0) (z 1) (z 2) (z 3) w := appT 1 (k4_ok R)
noncomputable abbrev p7 : Code := dropC 1 (fstC p1)

def b16 (R : EP) (x0 x1 x2 x3 x19 : Value) (w : World) (_r : Tok R := tok R) : Prop :=
 SPL x19
 (R (.returned (Value.bool false)) w)
 (b3 R x0 x1 x2 x3 w)
abbrev q7 (R : EP) : XP := QX (fun z w => b3 R (z 0) (z 1) (z 2) (z 3) w) (r0 R) []
theorem b16_ok (R : EP) : TI prog R p7 (q7 R) fun z w => b16 R (z 0) (z 1) (z 2) (z 3) (z 19) w := ofT
def b15_1 (R : EP) (x0 x1 x2 x3 : Value) (w2 : World) (_r : Tok R := tok R) : Prop :=
 RUN prog R (Builtin.len_ #[49] 3 #[x0]) w2 fun v3 w4 =>
 RUN prog R (bins .geq 3 (.tmp 15) (.tmp 17) x1 v3) w4 fun v5 w6 =>
 b16 R x0 x1 x2 x3 v5 w6

def b15 (R : EP) (x0 x1 x2 x3 : Value) (w : World) (_r : Tok R := tok R) : Prop :=
 RUN prog R (bins .lss 3 (.tmp 12) (.const (Value.int .i64 0)) x1 (Value.int .i64 0)) w fun v1 w2 =>
 SPL v1
 (b16 R x0 x1 x2 x3 (Value.bool true) w2)
 (b15_1 R x0 x1 x2 x3 w2)
theorem b15_ok (R : EP) : TI prog R (fstC p1) (q7 R) fun z w => b15 R (z 0) (z 1) (z 2) (z 3) w := appT 0 (b16_ok R)
theorem k2_ok (R : EP) : TI prog R p1 (q1 R) fun z w => b15 R (z 0) (z 1) (z 2) (z 3) w := seqT (b15_ok R) (b3_ok R)

def b1 (R : EP) (x0 x1 x2 x3 : Value) (w : World) (_r : Tok R := tok R) : Prop :=
 b15 R x0 x1 x2 x3 w
theorem b1_ok (R : EP) : TI prog R code (q1 R) fun z w => b1 R (z 0) (z 1) (z 2) (z 3) w := appT 0 (k2_ok R)
def run (R : EP) (a0 a1 a2 a3 : Value) (w : World) : Prop := b1 R a0 a1 a2 a3 w
theorem calls (R : EP) (a0 a1 a2 a3 : Value) (w : World) (h : run R a0 a1 a2 a3 w) : Calls prog id #[a0, a1, a2, a3] w R := cls_t func85 [a0, a1, a2, a3] (b1_ok R _ w h)
theorem enters : Enters prog id := fun args w => call85 args w
theorem ct {a0 a1 a2 a3 : Value} {w : World} {S : VP} (h : ∀ R : EP, (∀ v w, S v w → R (.returned v) w) → run R a0 a1 a2 a3 w) : Ct prog id #[a0, a1, a2, a3] w S :=
 Ct.intro enters fun R hR => calls R a0 a1 a2 a3 w (h R hR)
attribute [irreducible] l7
attribute [irreducible, go_sem] b5 b12_1 b12 b14 b13_1 b13 b10 b8 b3 b16 b15_1 b15 b1 run
end tree_below

/-! ### presage/tree.left -/
namespace tree_left
noncomputable def code : Code := bodyOf f86
def b1 (R : EP) (x0 : Value) (w : World) (_r : Tok R := tok R) : Prop :=
 CALL prog R slices_Reverse_int_int.id #[x0] w fun v1 w2 =>
 R (.returned (.tuple #[])) w2
abbrev r0 (R : EP) (z : Env) (w : World) : Prop := R (.returned (.tuple #[])) w
abbrev q1 (R : EP) : XP := QX (r0 R) (r0 R) []
theorem b1_ok (R : EP) : TI prog R code (q1 R) fun z w => b1 R (z 0) w := ofT
def run (R : EP) (a0 : Value) (w : World) : Prop := b1 R a0 w
theorem calls (R : EP) (a0 : Value) (w : World) (h : run R a0 w) : Calls prog id #[a0] w R := cls_0 func86 [a0] (b1_ok R _ w h)
theorem enters : Enters prog id := fun args w => call86 args w
theorem ct {a0 : Value} {w : World} {S : VP} (h : ∀ R : EP, (∀ v w, S v w → R (.returned v) w) → run R a0 w) : Ct prog id #[a0] w S :=
 Ct.intro enters fun R hR => calls R a0 w (h R hR)
attribute [irreducible, go_sem] b1 run
end tree_left

/-! ### presage/tree.Frontier$1 -/
namespace tree_Frontier_1
noncomputable def code : Code := bodyOf f87
def b1_1 (R : EP) (x2 v1 : Value) (w8 : World) (_r : Tok R := tok R) : Prop :=
 RUN prog R (loadAt 24 x2) w8 fun v9 w10 =>
 RUN prog R (fieldAt 61 v1 0) w10 fun v11 w12 =>
 RUN prog R (loadAt 3 v11) w12 fun v13 w14 =>
 RUN prog R (buildSlice 24 1 #[(0, v13)]) w14 fun v15 w16 =>
 RUN prog R (Builtin.append_ #[24, 24] 24 #[v9, v15]) w16 fun v17 w18 =>
 RUNU prog R (storeAt 24 x2 v17) w18 fun w19 =>
 R (.returned (Value.bool true)) w19
def b1 (R : EP) (x1 x2 : Value) (w : World) (_r : Tok R := tok R) : Prop :=
 RUN prog R (box 61 x1) w fun v1 w2 =>
 RUN prog R (fieldAt 61 v1 1) w2 fun v3 w4 =>
 RUN prog R (loadAt 3 v3) w4 fun v5 w6 =>
 RUN prog R (bins .lss 3 (.tmp 7) (.const (Value.int .i64 0)) v5 (Value.int .i64 0)) w6 fun v7 w8 =>
 SPL v7
 (b1_1 R x2 v1 w8)
 (R (.returned (Value.bool true)) w8)
abbrev r0 (R : EP) (z : Env) (w : World) : Prop := R (.returned (z 5)) w
abbrev q1 (R : EP) : XP := QX (r0 R) (r0 R) []
theorem b1_ok (R : EP) : TI prog R code (q1 R) fun z w => b1 R (z 1) (z 2) w := ofT
def run (R : EP) (a0 a1 a2 : Value) (w : World) : Prop := b1 R a1 a2 w
theorem calls (R : EP) (a0 a1 a2 : Value) (w : World) (h : run R a0 a1 a2 w) : Calls prog id #[a0, a1, a2] w R := cls_t func87 [a0, a1, a2] (b1_ok R _ w h)
theorem enters : Enters prog id := fun args w => call87 args w
theorem ct {a0 a1 a2 : Value} {w : World} {S : VP} (h : ∀ R : EP, (∀ v w, S v w → R (.returned v) w) → run R a0 a1 a2 w) : Ct prog id #[a0, a1, a2] w S :=
 Ct.intro enters fun R hR => calls R a0 a1 a2 w (h R hR)
attribute [irreducible, go_sem] b1_1 b1 run
end tree_Frontier_1

/-! ### presage/tree.right -/
namespace tree_right
noncomputable def code : Code := bodyOf f88

def b1 (R : EP) (w : World) (_r : Tok R := tok R) : Prop :=
 R (.returned (.tuple #[])) w
abbrev r0 (R : EP) (z : Env) (w : World) : Prop := R (.returned (.tuple #[])) w
abbrev q1 (R : EP) : XP := QX (r0 R) (r0 R) []
theorem b1_ok (R : EP) : TI prog R code (q1 R) fun z w => b1 R w := ofT
def run (R : EP) (a0 : Value) (w : World) : Prop := b1 R w
theorem calls (R : EP) (a0 : Value) (w : World) (h : run R a0 w) : Calls prog id #[a0] w R := cls_0 func88 [a0] (b1_ok R _ w h)
theorem enters : Enters prog id := fun args w => call88 args w
theorem ct {a0 : Value} {w : World} {S : VP} (h : ∀ R : EP, (∀ v w, S v w → R (.returned v) w) → run R a0 w) : Ct prog id #[a0] w S :=
 Ct.intro enters fun R hR => calls R a0 w (h R hR)
attribute [irreducible, go_sem] b1 run
end tree_right

/-! ### presage/tree.Rightmost$1 -/
namespace tree_Rightmost_1
noncomputable def code : Code := bodyOf f89
def b1_1 (R : EP) (x2 v1 : Value) (w8 : World) (_r : Tok R := tok R) : Prop :=
 RUN prog R (loadAt 24 x2) w8 fun v9 w10 =>
 RUN prog R (fieldAt 61 v1 1) w10 fun v11 w12 =>
 RUN prog R (loadAt 3 v11) w12 fun v13 w14 =>
 RUN prog R (buildSlice 24 1 #[(0, v13)]) w14 fun v15 w16 =>
 RUN prog R (Builtin.append_ #[24, 24] 24 #[v9, v15]) w16 fun v17 w18 =>
 RUNU prog R (storeAt 24 x2 v17) w18 fun w19 =>
 R (.returned (Value.bool true)) w19
def b1 (R : EP) (x1 x2 : Value) (w : World) (_r : Tok R := tok R) : Prop :=
 RUN prog R (box 61 x1) w fun v1 w2 =>
 RUN prog R (fieldAt 61 v1 1) w2 fun v3 w4 =>
 RUN prog R (loadAt 3 v3) w4 fun v5 w6 =>
 RUN prog R (bins .geq 3 (.tmp 7) (.const (Value.int .i64 0)) v5 (Value.int .i64 0)) w6 fun v7 w8 =>
 SPL v7
 (b1_1 R x2 v1 w8)
 (R (.returned (Value.bool true)) w8)
abbrev r0 (R : EP) (z : Env) (w : World) : Prop := R (.returned (z 5)) w
abbrev q1 (R : EP) : XP := QX (r0 R) (r0 R) []
theorem b1_ok (R : EP) : TI prog R code (q1 R) fun z w => b1 R (z 1) (z 2) w := ofT
def run (R : EP) (a0 a1 a2 : Value) (w : World) : Prop := b1 R a1 a2 w
theorem calls (R : EP) (a0 a1 a2 : Value) (w : World) (h : run R a0 a1 a2 w) : Calls prog id #[a0, a1, a2] w R := cls_t func89 [a0, a1, a2] (b1_ok R _ w h)
theorem enters : Enters prog id := fun args w => call89 args w
theorem ct {a0 a1 a2 : Value} {w : World} {S : VP} (h : ∀ R : EP, (∀ v w, S v w → R (.returned v) w) → run R a0 a1 a2 w) : Ct prog id #[a0, a1, a2] w S :=
 Ct.intro enters fun R hR => calls R a0 a1 a2 w (h R hR)
attribute [irreducible, go_sem] b1_1 b1 run
end tree_Rightmost_1

/-! ### presage/tree.Derives$1 -/
namespace tree_Derives_1
noncomputable def code : Code := bodyOf f91
def b1_1 (R : EP) (x2 v1 : Value) (w8 : World) (_r : Tok R := tok R) : Prop :=
 RUN prog R (loadAt 119 x2) w8 fun v9 w10 =>
 RUN prog R (loadAt 61 v1) w10 fun v11 w12 =>
 CALL prog R tree_proof_leaf.id #[v9, v11] w12 fun v13 w14 =>
 R (.returned v13) w14
def b1_2 (R : EP) (x2 v1 : Value) (w8 : World) (_r : Tok R := tok R) : Prop :=
 RUN prog R (loadAt 119 x2) w8 fun v15 w16 =>
 RUN prog R (loadAt 61 v1) w16 fun v17 w18 =>
 CALL prog R tree_proof_joined.id #[v15, v17] w18 fun v19 w20 =>
 R (.returned v19) w20
def b1 (R : EP) (x1 x2 : Value) (w : World) (_r : Tok R := tok R) : Prop :=
 RUN prog R (box 61 x1) w fun v1 w2 =>
 RUN prog R (fieldAt 61 v1 1) w2 fun v3 w4 =>
 RUN prog R (loadAt 3 v3) w4 fun v5 w6 =>
 RUN prog R (bins .lss 3 (.tmp 7) (.const (Value.int .i64 0)) v5 (Value.int .i64 0)) w6 fun v7 w8 =>
 SPL v7
 (b1_1 R x2 v1 w8)
 (b1_2 R x2 v1 w8)
abbrev r0 (R : EP) (z : Env) (w : World) : Prop := R (.returned (z 5)) w
abbrev q1 (R : EP) : XP := QX (r0 R) (r0 R) []
theorem b1_ok (R : EP) : TI prog R code (q1 R) fun z w => b1 R (z 1) (z 2) w := ofT
def run (R : EP) (a0 a1 a2 : Value) (w : World) : Prop := b1 R a1 a2 w
theorem calls (R : EP) (a0 a1 a2 : Value) (w : World) (h : run R a0 a1 a2 w) : Calls prog id #[a0, a1, a2] w R := cls_t func91 [a0, a1, a2] (b1_ok R _ w h)
theorem enters : Enters prog id := fun args w => call91 args w
theorem ct {a0 a1 a2 : Value} {w : World} {S : VP} (h : ∀ R : EP, (∀ v w, S v w → R (.returned v) w) → run R a0 a1 a2 w) : Ct prog id #[a0, a1, a2] w S :=
 Ct.intro enters fun R hR => calls R a0 a1 a2 w (h R hR)
attribute [irreducible, go_sem] b1_1 b1_2 b1 run
end tree_Derives_1

/-! ### (*presage/tree.proof).leaf -/
namespace tree_proof_leaf
noncomputable def code : Code := bodyOf f92
noncomputable abbrev p1 : Code := dropC 2 code
def b2 (R : EP) (x0 x5 : Value) (w : World) (_r : Tok R := tok R) : Prop :=
 NILC x0 fun v1 =>
 RUN prog R (fieldAt 121 v1 3) w fun v2 w3 =>
 RUN prog R (loadAt 3 v2) w3 fun v4 w5 =>
 RUN prog R (bins .add 3 (.tmp 59) (.const (Value.int .i64 1)) v4 (Value.int .i64 1)) w5 fun v6 w7 =>
 NILC x0 fun v8 =>
 RUN prog R (fieldAt 121 v8 3) w7 fun v9 w10 =>
 RUNU prog R (storeAt 3 v9 v6) w10 fun w11 =>
 R (.returned x5) w11
abbrev r0 (R : EP) (z : Env) (w : World) : Prop := R (.returned (z 4)) w
abbrev q1 (R : EP) : XP := QX (r0 R) (r0 R) []
theorem b2_ok (R : EP) : TI prog R p1 (q1 R) fun z w => b2 R (z 0) (z 5) w := ofT
def b1_1 (R : EP) (x0 v1 : Value) (w2 : World) (_r : Tok R := tok R) : Prop :=
 PUR prog (fieldAt 61 v1 2) fun v33 =>
 LD prog (loadAt 3 v33) (World.drew w2) fun v34 =>
 NILC x0 fun v35 =>
 PUR prog (fieldAt 121 v35 3) fun v36 =>
 LD prog (loadAt 3 v36) (World.drew w2) fun v37 =>
 PUR prog (bins .eql 3 (.tmp 49) (.tmp 53) v34 v37) fun v38 =>
 b2 R x0 v38 (World.drew w2)
def b1_2 (R : EP) (x0 v1 : Value) (w2 : World) (_r : Tok R := tok R) : Prop :=
 NILC x0 fun v22 =>
 PUR prog (fieldAt 121 v22 2) fun v23 =>
 LD prog (loadAt 24 v23) (World.drew w2) fun v24 =>
 NILC x0 fun v25 =>
 PUR prog (fieldAt 121 v25 3) fun v26 =>
 LD prog (loadAt 3 v26) (World.drew w2) fun v27 =>
 PUR prog (indexAt 24 v24 v27) fun v28 =>
 LD prog (loadAt 3 v28) (World.drew w2) fun v29 =>
 PUR prog (fieldAt 61 v1 0) fun v30 =>
 LD prog (loadAt 3 v30) (World.drew w2) fun v31 =>
 PUR prog (bins .eql 3 (.tmp 42) (.tmp 44) v29 v31) fun v32 =>
 SPL v32
 (b1_1 R x0 v1 w2)
 (b2 R x0 (Value.bool false) (World.drew w2))
def b1_3 (R : EP) (x0 v1 : Value) (w2 : World) (_r : Tok R := tok R) : Prop :=
 NILC x0 fun v14 =>
 PUR prog (fieldAt 121 v14 3) fun v15 =>
 LD prog (loadAt 3 v15) (World.drew w2) fun v16 =>
 NILC x0 fun v17 =>
 PUR prog (fieldAt 121 v17 2) fun v18 =>
 LD prog (loadAt 24 v18) (World.drew w2) fun v19 =>
 LD prog (Builtin.len_ #[24] 3 #[v19]) (World.drew w2) fun v20 =>
 PUR prog (bins .lss 3 (.tmp 24) (.tmp 29) v16 v20) fun v21 =>
 SPL v21
 (b1_2 R x0 v1 w2)
 (b2 R x0 (Value.bool false) (World.drew w2))
def b1_4 (R : EP) (x0 v1 : Value) (w2 : World) (_r : Tok R := tok R) : Prop :=
 PUR prog (fieldAt 61 v1 0) fun v6 =>
 LD prog (loadAt 3 v6) (World.drew w2) fun v7 =>
 NILC x0 fun v8 =>
 PUR prog (fieldAt 121 v8 0) fun v9 =>
 PUR prog (fieldAt 27 v9 0) fun v10 =>
 LD prog (loadAt 22 v10) (World.drew w2) fun v11 =>
 LD prog (Builtin.len_ #[22] 3 #[v11]) (World.drew w2) fun v12 =>
 PUR prog (bins .lss 3 (.tmp 11) (.tmp 17) v7 v12) fun v13 =>
 SPL v13
 (b1_3 R x0 v1 w2)
 (b2 R x0 (Value.bool false) (World.drew w2))
def b1 (R : EP) (x0 x1 : Value) (w : World) (_r : Tok R := tok R) : Prop :=
 RUN prog R (box 61 x1) w fun v1 w2 =>
 PUR prog (fieldAt 61 v1 0) fun v3 =>
 LD prog (loadAt 3 v3) (World.drew w2) fun v4 =>
 PUR prog (bins .lss 3 (.const (Value.int .i64 0)) (.tmp 7) (Value.int .i64 0) v4) fun v5 =>
 SPL v5
 (b1_4 R x0 v1 w2)
 (b2 R x0 (Value.bool false) (World.drew w2))
theorem b1_ok (R : EP) : TI prog R code (q1 R) fun z w => b1 R (z 0) (z 1) w := appT 1 (b2_ok R)
def run (R : EP) (a0 a1 : Value) (w : World) : Prop := b1 R a0 a1 w
theorem calls (R : EP) (a0 a1 : Value) (w : World) (h : run R a0 a1 w) : Calls prog id #[a0, a1] w R := cls_t func92 [a0, a1] (b1_ok R _ w h)
theorem enters : Enters prog id := fun args w => call92 args w
theorem ct {a0 a1 : Value} {w : World} {S : VP} (h : ∀ R : EP, (∀ v w, S v w → R (.returned v) w) → run R a0 a1 w) : Ct prog id #[a0, a1] w S :=
 Ct.intro enters fun R hR => calls R a0 a1 w (h R hR)
attribute [irreducible, go_sem] b2 b1_1 b1_2 b1_3 b1_4 b1 run
end tree_proof_leaf

/-! ### (*presage/tree.proof).joined -/
namespace tree_proof_joined
noncomputable def code : Code := bodyOf f93
def b1_1 (R : EP) (v1 v3 : Value) (w4 : World) (_r : Tok R := tok R) : Prop :=
 LD prog (loadAt 119 v1) (World.drew w4) fun v27 =>
 NILC v27 fun v28 =>
 PUR prog (fieldAt 121 v28 0) fun v29 =>
 PUR prog (fieldAt 27 v29 4) fun v30 =>
 LD prog (loadAt 25 v30) (World.drew w4) fun v31 =>
 PUR prog (fieldAt 61 v3 1) fun v32 =>
 LD prog (loadAt 3 v32) (World.drew w4) fun v33 =>
 PUR prog (indexAt 25 v31 v33) fun v34 =>
 PUR prog (fieldAt 47 v34 1) fun v35 =>
 LD prog (loadAt 24 v35) (World.drew w4) fun v36 =>
 PUR prog (fieldAt 61 v3 3) fun v37 =>
 LD prog (loadAt 24 v37) (World.drew w4) fun v38 =>
 PUR prog (makeFunc (.func tree_proof_joined_1.id) #[] #[v1]) fun v39 =>
 CALL prog R slices_EqualFunc_int_int_int_int.id #[v36, v38, v39] (World.drew w4) fun v40 w41 =>
 R (.returned v40) w41
def b1_2 (R : EP) (v1 v3 : Value) (w4 : World) (_r : Tok R := tok R) : Prop :=
 LD prog (loadAt 119 v1) (World.drew w4) fun v14 =>
 NILC v14 fun v15 =>
 PUR prog (fieldAt 121 v15 0) fun v16 =>
 PUR prog (fieldAt 27 v16 4) fun v17 =>
 LD prog (loadAt 25 v17) (World.drew w4) fun v18 =>
 PUR prog (fieldAt 61 v3 1) fun v19 =>
 LD prog (loadAt 3 v19) (World.drew w4) fun v20 =>
 PUR prog (indexAt 25 v18 v20) fun v21 =>
 PUR prog (fieldAt 47 v21 0) fun v22 =>
 LD prog (loadAt 3 v22) (World.drew w4) fun v23 =>
 PUR prog (fieldAt 61 v3 0) fun v24 =>
 LD prog (loadAt 3 v24) (World.drew w4) fun v25 =>
 PUR prog (bins .eql 3 (.tmp 24) (.tmp 26) v23 v25) fun v26 =>
 SPL v26
 (b1_1 R v1 v3 w4)
 (R (.returned (Value.bool false)) (World.drew w4))
def b1 (R : EP) (x0 x1 : Value) (w : World) (_r : Tok R := tok R) : Prop :=
 RUN prog R (box 119 x0) w fun v1 w2 =>
 RUN prog R (box 61 x1) w2 fun v3 w4 =>
 PUR prog (fieldAt 61 v3 1) fun v5 =>
 LD prog (loadAt 3 v5) (World.drew w4) fun v6 =>
 LD prog (loadAt 119 v1) (World.drew w4) fun v7 =>
 NILC v7 fun v8 =>
 PUR prog (fieldAt 121 v8 0) fun v9 =>
 PUR prog (fieldAt 27 v9 4) fun v10 =>
 LD prog (loadAt 25 v10) (World.drew w4) fun v11 =>
 LD prog (Builtin.len_ #[25] 3 #[v11]) (World.drew w4) fun v12 =>
 PUR prog (bins .lss 3 (.tmp 6) (.tmp 12) v6 v12) fun v13 =>
 SPL v13
 (b1_2 R v1 v3 w4)
 (R (.returned (Value.bool false)) (World.drew w4))
abbrev r0 (R : EP) (z : Env) (w : World) : Prop := R (.returned (z 4)) w
abbrev q1 (R : EP) : XP := QX (r0 R) (r0 R) []
theorem b1_ok (R : EP) : TI prog R code (q1 R) fun z w => b1 R (z 0) (z 1) w := ofT
def run (R : EP) (a0 a1 : Value) (w : World) : Prop := b1 R a0 a1 w
theorem calls (R : EP) (a0 a1 : Value) (w : World) (h : run R a0 a1 w) : Calls prog id #[a0, a1] w R := cls_t func93 [a0, a1] (b1_ok R _ w h)
theorem enters : Enters prog id := fun args w => call93 args w
theorem ct {a0 a1 : Value} {w : World} {S : VP} (h : ∀ R : EP, (∀ v w, S v w → R (.returned v) w) → run R a0 a1 w) : Ct prog id #[a0, a1] w S :=
 Ct.intro enters fun R hR => calls R a0 a1 w (h R hR)
attribute [irreducible, go_sem] b1_1 b1_2 b1 run
end tree_proof_joined

/-! ### presage/tree.Text$1 -/
namespace tree_Text_1
noncomputable def code : Code := bodyOf f94
noncomputable abbrev p1 : Code := dropC 2 code
noncomputable abbrev p2 : Code := dropC 2 (sndC p1)

def b5 (R : EP) (w : World) (_r : Tok R := tok R) : Prop :=
 R (.returned (Value.bool true)) w
abbrev r0 (R : EP) (z : Env) (w : World) : Prop := R (.returned (z 7)) w
abbrev q1 (R : EP) : XP := QX (r0 R) (r0 R) []
theorem b5_ok (R : EP) : TI prog R (sndC p2) (q1 R) fun z w => b5 R w := ofT
noncomputable abbrev p3 : Code := blkC (fstC p2)
def b8_1 (R : EP) (C7 : World → Prop) (x4 : Value) (w30 : World) (_r : Tok R := tok R) (_C7 : Tok C7 := tok C7) : Prop :=
 RUN prog R (loadAt 24 x4) w30 fun v31 w32 =>
 RUN prog R (loadAt 24 x4) w32 fun v33 w34 =>
 RUN prog R (Builtin.len_ #[24] 3 #[v33]) w34 fun v35 w36 =>
 RUN prog R (bins .sub 3 (.tmp 65) (.const (Value.int .i64 1)) v35 (Value.int .i64 1)) w36 fun v37 w38 =>
 RUN prog R (sliceAt 24 v31 none (some v37) none) w38 fun v39 w40 =>
 RUNU prog R (storeAt 24 x4 v39) w40 fun w41 =>
 C7  w41
def b8_2 (R : EP) (C7 : World → Prop) (x3 x4 : Value) (w6 : World) (_r : Tok R := tok R) (_C7 : Tok C7 := tok C7) : Prop :=
 RUN prog R (loadAt 24 x4) w6 fun v7 w8 =>
 RUN prog R (loadAt 24 x4) w8 fun v9 w10 =>
 RUN prog R (Builtin.len_ #[24] 3 #[v9]) w10 fun v11 w12 =>
 RUN prog R (bins .sub 3 (.tmp 50) (.const (Value.int .i64 1)) v11 (Value.int .i64 1)) w12 fun v13 w14 =>
 RUN prog R (indexAt 24 v7 v13) w14 fun v15 w16 =>
 NILC v15 fun v17 =>
 RUN prog R (loadAt 3 v17) w16 fun v18 w19 =>
 RUN prog R (bins .sub 3 (.tmp 55) (.const (Value.int .i64 1)) v18 (Value.int .i64 1)) w19 fun v20 w21 =>
 NILC v15 fun v22 =>
 RUNU prog R (storeAt 3 v22 v20) w21 fun w23 =>
 NILC v15 fun v24 =>
 RUN prog R (loadAt 3 v24) w23 fun v25 w26 =>
 RUN prog R (bins .gtr 3 (.tmp 60) (.const (Value.int .i64 0)) v25 (Value.int .i64 0)) w26 fun v27 w28 =>
 SPL v27
 (b5 R w28)
 (CALL prog R strings_Builder_WriteString.id #[x3, (Value.string ⟨#[41]⟩)] w28 fun v29 w30 =>
 b8_1 R C7 x4 w30)

def b8 (R : EP) (C7 : World → Prop) (x3 x4 : Value) (w : World) (_r : Tok R := tok R) (_C7 : Tok C7 := tok C7) : Prop :=
 RUN prog R (loadAt 24 x4) w fun v1 w2 =>
 RUN prog R (Builtin.len_ #[24] 3 #[v1]) w2 fun v3 w4 =>
 RUN prog R (bins .gtr 3 (.tmp 46) (.const (Value.int .i64 0)) v3 (Value.int .i64 0)) w4 fun v5 w6 =>
 SPL v5
 (b8_2 R C7 x3 x4 w6)
 (b5 R w6)
abbrev q2 (R : EP) (C7 : World → Prop) : XP := QX (fun z w => C7  w) (r0 R) [(0, (fun z w => b5 R  w))]
theorem b8_ok (R : EP) (C7 : World → Prop) : TI prog R (loopC p3) (q2 R C7) fun z w => b8 R C7 (z 3) (z 4) w := ofT

def l7 (R : EP) (x3 x4 : Value) (w : World) (_r : Tok R := tok R) : Prop :=
 ∃ (J : World → Prop) (μ : World → Nat), J  w ∧ ∀ w0, J  w0 → b8 R (fun  w1 => J  w1 ∧ μ  w1 < μ  w0) x3 x4 w0
abbrev q3 (R : EP) : XP := QX (fun z w => b5 R  w) (r0 R) [(0, (fun z w => b5 R  w))]
theorem l7_ok (R : EP) : TI prog R p3 (q3 R) fun z w => l7 R (z 3) (z 4) w := fun z w h => by
 unfold l7 at h
 obtain ⟨J, μ, h0, hr⟩ := h
 refine loopT (fun z' w' => J  w') (fun z' w' => μ  w') h0 fun z' w' hA hI => b8_ok R (fun  w1 => J  w1 ∧ μ  w1 < μ  w') z' w' ?_
 have h1 := hr  w' hI
 rwa [← hA.on 3, ← hA.on 4] at h1
theorem l7_intro (R : EP) (x3 x4 : Value) (w : World) (J : World → Prop) (μ : World → Nat) (h0 : J  w)
   (hr : ∀ w0, J  w0 → ∀ C7 : World → Prop, (∀  w1, J  w1 → μ  w1 < μ  w0 → C7  w1) → b8 R C7 x3 x4 w0) : l7 R x3 x4 w := by
 unfold l7
 exact ⟨J, μ, h0, fun  w0 hJ => hr  w0 hJ _ (fun  w1 h1 h2 => ⟨h1, h2⟩)⟩
abbrev q4 (R : EP) : XP := QX (fun z w => b5 R  w) (r0 R) []
theorem k6_ok (R : EP) : TI prog R (fstC p2) (q4 R) fun z w => l7 R (z 3) (z 4) w := blockT 0 (l7_ok R)
theorem k4_ok (R : EP) : TI prog R p2 (q1 R) fun z w => l7 R (z 3) (z 4) w := seqT (k6_ok R) (b5_ok R)
def b3_1 (R : EP) (x3 x4 x6 : Value) (w20 : World) (_r : Tok R := tok R) : Prop :=
 RUN prog R (loadAt 24 x4) w20 fun v21 w22 =>
 RUN prog R (fieldAt 61 x6 3) w22 fun v23 w24 =>
 RUN prog R (loadAt 24 v23) w24 fun v25 w26 =>
 RUN prog R (Builtin.len_ #[24] 3 #[v25]) w26 fun v27 w28 =>
 RUN prog R (bins .add 3 (.tmp 41) (.const (Value.int .i64 1)) v27 (Value.int .i64 1)) w28 fun v29 w30 =>
 RUN prog R (buildSlice 24 1 #[(0, v29)]) w30 fun v31 w32 =>
 RUN prog R (Builtin.append_ #[24, 24] 24 #[v21, v31]) w32 fun v33 w34 =>
 RUNU prog R (storeAt 24 x4 v33) w34 fun w35 =>
 l7 R x3 x4 w35
def b3_2 (R : EP) (x3 x4 x6 : Value) (w12 : World) (_r : Tok R := tok R) : Prop :=
 RUN prog R (fieldAt 61 x6 1) w12 fun v13 w14 =>
 RUN prog R (loadAt 3 v13) w14 fun v15 w16 =>
 RUN prog R (bins .geq 3 (.tmp 35) (.const (Value.int .i64 0)) v15 (Value.int .i64 0)) w16 fun v17 w18 =>
 SPL v17
 (CALL prog R strings_Builder_WriteString.id #[x3, (Value.string ⟨#[40]⟩)] w18 fun v19 w20 =>
 b3_1 R x3 x4 x6 w20)
 (l7 R x3 x4 w18)

def b3 (R : EP) (x2 x3 x4 x6 : Value) (w : World) (_r : Tok R := tok R) : Prop :=
 RUN prog R (loadAt 23 x2) w fun v1 w2 =>
 RUN prog R (fieldAt 61 x6 0) w2 fun v3 w4 =>
 RUN prog R (loadAt 3 v3) w4 fun v5 w6 =>
 RUN prog R (indexAt 23 v1 v5) w6 fun v7 w8 =>
 RUN prog R (loadAt 9 v7) w8 fun v9 w10 =>
 CALL prog R strings_Builder_WriteString.id #[x3, v9] w10 fun v11 w12 =>
 b3_2 R x3 x4 x6 w12
theorem b3_ok (R : EP) : TI prog R (sndC p1) (q1 R) fun z w => b3 R (z 2) (z 3) (z 4) (z 6) w := appT 1 (k4_ok R)
noncomputable abbrev p4 : Code := dropC 2 (fstC p1)

def b10 (R : EP) (x2 x3 x4 x6 x26 : Value) (w : World) (_r : Tok R := tok R) : Prop :=
 SPL x26
 (CALL prog R strings_Builder_WriteString.id #[x3, (Value.string ⟨#[32]⟩)] w fun v1 w2 =>
 b3 R x2 x3 x4 x6 w2)
 (b3 R x2 x3 x4 x6 w)
abbrev q5 (R : EP) : XP := QX (fun z w => b3 R (z 2) (z 3) (z 4) (z 6) w) (r0 R) []
theorem b10_ok (R : EP) : TI prog R p4 (q5 R) fun z w => b10 R (z 2) (z 3) (z 4) (z 6) (z 26) w := ofT
def b9_1 (R : EP) (x2 x3 x4 x6 v1 : Value) (w8 : World) (_r : Tok R := tok R) : Prop :=
 RUN prog R (Builtin.len_ #[9] 3 #[v1]) w8 fun v9 w10 =>
 RUN prog R (bins .sub 3 (.tmp 22) (.const (Value.int .i64 1)) v9 (Value.int .i64 1)) w10 fun v11 w12 =>
 RUN prog R (index 9 v1 v11) w12 fun v13 w14 =>
 RUN prog R (bins .neq 5 (.tmp 24) (.const (Value.int .u8 40)) v13 (Value.int .u8 40)) w14 fun v15 w16 =>
 b10 R x2 x3 x4 x6 v15 w16
def b9_2 (R : EP) (x2 x3 x4 x6 v1 : Value) (w2 : World) (_r : Tok R := tok R) : Prop :=
 RUN prog R (loadAt 24 x4) w2 fun v3 w4 =>
 RUN prog R (Builtin.len_ #[24] 3 #[v3]) w4 fun v5 w6 =>
 RUN prog R (bins .gtr 3 (.tmp 17) (.const (Value.int .i64 0)) v5 (Value.int .i64 0)) w6 fun v7 w8 =>
 SPL v7
 (b9_1 R x2 x3 x4 x6 v1 w8)
 (b10 R x2 x3 x4 x6 (Value.bool false) w8)

def b9 (R : EP) (x2 x3 x4 x6 : Value) (w : World) (_r : Tok R := tok R) : Prop :=
 CALL prog R strings_Builder_String.id #[x3] w fun v1 w2 =>
 b9_2 R x2 x3 x4 x6 v1 w2
theorem b9_ok (R : EP) : TI prog R (fstC p1) (q5 R) fun z w => b9 R (z 2) (z 3) (z 4) (z 6) w := appT 1 (b10_ok R)
theorem k2_ok (R : EP) : TI prog R p1 (q1 R) fun z w => b9 R (z 2) (z 3) (z 4) (z 6) w := seqT (b9_ok R) (b3_ok R)

def b1 (R : EP) (x1 x2 x3 x4 : Value) (w : World) (_r : Tok R := tok R) : Prop :=
 RUN prog R (box 61 x1) w fun v1 w2 =>
 RUN prog R (fieldAt 61 v1 0) w2 fun v3 w4 =>
 RUN prog R (loadAt 3 v3) w4 fun v5 w6 =>
 RUN prog R (loadAt 23 x2) w6 fun v7 w8 =>
 RUN prog R (Builtin.len_ #[23] 3 #[v7]) w8 fun v9 w10 =>
 RUN prog R (bins .geq 3 (.tmp 11) (.tmp 13) v5 v9) w10 fun v11 w12 =>
 SPL v11
 (R (.returned (Value.bool false)) w12)
 (b9 R x2 x3 x4 v1 w12)
theorem b1_ok (R : EP) : TI prog R code (q1 R) fun z w => b1 R (z 1) (z 2) (z 3) (z 4) w := appT 1 (k2_ok R)
def run (R : EP) (a0 a1 a2 a3 a4 : Value) (w : World) : Prop := b1 R a1 a2 a3 a4 w
theorem calls (R : EP) (a0 a1 a2 a3 a4 : Value) (w : World) (h : run R a0 a1 a2 a3 a4 w) : Calls prog id #[a0, a1, a2, a3, a4] w R := cls_t func94 [a0, a1, a2, a3, a4] (b1_ok R _ w h)
theorem enters : Enters prog id := fun args w => call94 args w
theorem ct {a0 a1 a2 a3 a4 : Value} {w : World} {S : VP} (h : ∀ R : EP, (∀ v w, S v w → R (.returned v) w) → run R a0 a1 a2 a3 a4 w) : Ct prog id #[a0, a1, a2, a3, a4] w S :=
 Ct.intro enters fun R hR => calls R a0 a1 a2 a3 a4 w (h R hR)
attribute [irreducible] l7
attribute [irreducible, go_sem] b5 b8_1 b8_2 b8 b3_1 b3_2 b3 b10 b9_1 b9_2 b9 b1 run
end tree_Text_1

/-! ### (*presage/tree.walk).push -/
namespace tree_walk_push
noncomputable def code : Code := bodyOf f127
noncomputable abbrev p1 : Code := dropC 1 code

def b3 (R : EP) (w : World) (_r : Tok R := tok R) : Prop :=
 R (.returned (Value.bool true)) w
abbrev r0 (R : EP) (z : Env) (w : World) : Prop := R (.returned (z 4)) w
abbrev q1 (R : EP) : XP := QX (r0 R) (r0 R) []
theorem b3_ok (R : EP) : TI prog R (sndC p1) (q1 R) fun z w => b3 R w := ofT
noncomputable abbrev p2 : Code := dropC 1 (fstC p1)
noncomputable abbrev p3 : Code := loopC (blkC p2)
def b7_1 (R : EP) (C6 : VP) (x0 x9 v5 : Value) (w15 : World) (_r : Tok R := tok R) (_C6 : Tok C6 := tok C6) : Prop :=
 NILC x0 fun v16 =>
 RUN prog R (fieldAt 160 v16 1) w15 fun v17 w18 =>
 RUN prog R (loadAt 68 v17) w18 fun v19 w20 =>
 RUN prog R (indexAt 68 v19 v5) w20 fun v21 w22 =>
 RUNU prog R (storeAt 4 v21 (Value.bool true)) w22 fun w23 =>
 NILC x0 fun v24 =>
 RUN prog R (fieldAt 160 v24 2) w23 fun v25 w26 =>
 RUN prog R (loadAt 24 v25) w26 fun v27 w28 =>
 RUN prog R (buildSlice 24 1 #[(0, v5)]) w28 fun v29 w30 =>
 RUN prog R (Builtin.append_ #[24, 24] 24 #[v27, v29]) w30 fun v31 w32 =>
 NILC x0 fun v33 =>
 RUN prog R (fieldAt 160 v33 2) w32 fun v34 w35 =>
 RUNU prog R (storeAt 24 v34 v31) w35 fun w36 =>
 RUN prog R (bins .add 3 (.tmp 9) (.const (Value.int .i64 1)) x9 (Value.int .i64 1)) w36 fun v37 w38 =>
 C6 v37 w38
def b7_2 (R : EP) (C6 : VP) (x0 x7 x9 : Value) (w2 : World) (_r : Tok R := tok R) (_C6 : Tok C6 := tok C6) : Prop :=
 RUN prog R (indexAt 24 x7 x9) w2 fun v3 w4 =>
 RUN prog R (loadAt 3 v3) w4 fun v5 w6 =>
 NILC x0 fun v7 =>
 RUN prog R (fieldAt 160 v7 1) w6 fun v8 w9 =>
 RUN prog R (loadAt 68 v8) w9 fun v10 w11 =>
 RUN prog R (indexAt 68 v10 v5) w11 fun v12 w13 =>
 RUN prog R (loadAt 4 v12) w13 fun v14 w15 =>
 SPL v14
 (R (.returned (Value.bool false)) w15)
 (b7_1 R C6 x0 x9 v5 w15)
def b7 (R : EP) (C6 : VP) (x0 x7 x8 x9 : Value) (w : World) (_r : Tok R := tok R) (_C6 : Tok C6 := tok C6) : Prop :=
 RUN prog R (bins .lss 3 (.tmp 9) (.tmp 8) x9 x8) w fun v1 w2 =>
 SPL v1
 (b7_2 R C6 x0 x7 x9 w2)
 (b3 R w2)
abbrev q2 (R : EP) (C6 : VP) : XP := QX (fun z w => C6 (z 9) w) (r0 R) [(0, (fun z w => b3 R  w))]
theorem b7_ok (R : EP) (C6 : VP) : TI prog R p3 (q2 R C6) fun z w => b7 R C6 (z 0) (z 7) (z 8) (z 9) w := ofT
def l6 (R : EP) (x0 x7 x8 x9 : Value) (w : World) (_r : Tok R := tok R) : Prop :=
 ∃ (J : VP) (μ : Value → World → Nat), J x9 w ∧ ∀ y9 w0, J y9 w0 → b7 R (fun z9 w1 => J z9 w1 ∧ μ z9 w1 < μ y9 w0) x0 x7 x8 y9 w0
abbrev q3 (R : EP) : XP := QX (fun z w => b3 R  w) (r0 R) [(0, (fun z w => b3 R  w))]
theorem l6_ok (R : EP) : TI prog R (blkC p2) (q3 R) fun z w => l6 R (z 0) (z 7) (z 8) (z 9) w := fun z w h => by
 unfold l6 at h
 obtain ⟨J, μ, h0, hr⟩ := h
 refine loopT (fun z' w' => J (z' 9) w') (fun z' w' => μ (z' 9) w') h0 fun z' w' hA hI => b7_ok R (fun z9 w1 => J z9 w1 ∧ μ z9 w1 < μ (z' 9) w') z' w' ?_
 have h1 := hr (z' 9) w' hI
 rwa [← hA.on 0, ← hA.on 7, ← hA.on 8] at h1
theorem l6_intro (R : EP) (x0 x7 x8 x9 : Value) (w : World) (J : VP) (μ : Value → World → Nat) (h0 : J x9 w)
   (hr : ∀ y9 w0, J y9 w0 → ∀ C6 : VP, (∀ z9 w1, J z9 w1 → μ z9 w1 < μ y9 w0 → C6 z9 w1) → b7 R C6 x0 x7 x8 y9 w0) : l6 R x0 x7 x8 x9 w := by
 unfold l6
 exact ⟨J, μ, h0, fun y9 w0 hJ => hr y9 w0 hJ _ (fun z9 w1 h1 h2 => ⟨h1, h2⟩)⟩
abbrev q4 (R : EP) : XP := QX (fun z w => b3 R  w) (r0 R) []
theorem k5_ok (R : EP) : TI prog R p2 (q4 R) fun z w => l6 R (z 0) (z 7) (z 8) (z 9) w := blockT 0 (l6_ok R)
def b4 (R : EP) (x0 x1 : Value) (w : World) (_r : Tok R := tok R) : Prop :=
 RUN prog R (Builtin.len_ #[24] 3 #[x1]) w fun v1 w2 =>
 l6 R x0 x1 v1 (Value.int .i64 0) w2
theorem b4_ok (R : EP) : TI prog R (fstC p1) (q4 R) fun z w => b4 R (z 0) (z 1) w := appT 0 (k5_ok R)
theorem k2_ok (R : EP) : TI prog R p1 (q1 R) fun z w => b4 R (z 0) (z 1) w := seqT (b4_ok R) (b3_ok R)
def b1 (R : EP) (x0 x1 : Value) (w : World) (_r : Tok R := tok R) : Prop :=
 b4 R x0 x1 w
theorem b1_ok (R : EP) : TI prog R code (q1 R) fun z w => b1 R (z 0) (z 1) w := appT 0 (k2_ok R)
def run (R : EP) (a0 a1 : Value) (w : World) : Prop := b1 R a0 a1 w
theorem calls (R : EP) (a0 a1 : Value) (w : World) (h : run R a0 a1 w) : Calls prog id #[a0, a1] w R := cls_t func127 [a0, a1] (b1_ok R _ w h)
theorem enters : Enters prog id := fun args w => call127 args w
theorem ct {a0 a1 : Value} {w : World} {S : VP} (h : ∀ R : EP, (∀ v w, S v w → R (.returned v) w) → run R a0 a1 w) : Ct prog id #[a0, a1] w S :=
 Ct.intro enters fun R hR => calls R a0 a1 w (h R hR)
attribute [irreducible] l6
attribute [irreducible, go_sem] b3 b7_1 b7_2 b7 b4 b1 run
end tree_walk_push

/-! ### (*presage/tree.walk).sound -/
namespace tree_walk_sound
noncomputable def code : Code := bodyOf f128
def b1_1 (R : EP) (v9 : Value) (w35 : World) (_r : Tok R := tok R) : Prop :=
 RUN prog R (fieldAt 61 v9 3) w35 fun v36 w37 =>
 RUN prog R (loadAt 24 v36) w37 fun v38 w39 =>
 RUN prog R (Builtin.len_ #[24] 3 #[v38]) w39 fun v40 w41 =>
 RUN prog R (bins .eql 3 (.tmp 32) (.const (Value.int .i64 0)) v40 (Value.int .i64 0)) w41 fun v42 w43 =>
 R (.returned v42) w43
def b1_2 (R : EP) (v9 : Value) (w29 : World) (_r : Tok R := tok R) : Prop :=
 RUN prog R (fieldAt 61 v9 2) w29 fun v30 w31 =>
 RUN prog R (loadAt 3 v30) w31 fun v32 w33 =>
 RUN prog R (bins .geq 3 (.tmp 26) (.const (Value.int .i64 0)) v32 (Value.int .i64 0)) w33 fun v34 w35 =>
 SPL v34
 (b1_1 R v9 w35)
 (R (.returned (Value.bool false)) w35)
def b1_3 (R : EP) (v9 : Value) (w23 : World) (_r : Tok R := tok R) : Prop :=
 RUN prog R (fieldAt 61 v9 0) w23 fun v24 w25 =>
 RUN prog R (loadAt 3 v24) w25 fun v26 w27 =>
 RUN prog R (bins .geq 3 (.tmp 21) (.const (Value.int .i64 0)) v26 (Value.int .i64 0)) w27 fun v28 w29 =>
 SPL v28
 (b1_2 R v9 w29)
 (R (.returned (Value.bool false)) w29)
def b1_4 (R : EP) (v9 : Value) (w17 : World) (_r : Tok R := tok R) : Prop :=
 RUN prog R (fieldAt 61 v9 1) w17 fun v18 w19 =>
 RUN prog R (loadAt 3 v18) w19 fun v20 w21 =>
 RUN prog R (bins .eql 3 (.tmp 17) (.const (Value.int .i64 (-1))) v20 (Value.int .i64 (-1))) w21 fun v22 w23 =>
 SPL v22
 (b1_3 R v9 w23)
 (R (.returned (Value.bool false)) w23)
def b1_5 (R : EP) (v1 v9 : Value) (w55 : World) (_r : Tok R := tok R) : Prop :=
 RUN prog R (fieldAt 61 v9 3) w55 fun v56 w57 =>
 RUN prog R (loadAt 24 v56) w57 fun v58 w59 =>
 RUN prog R (makeFunc (.func tree_walk_sound_1.id) #[] #[v1]) w59 fun v60 w61 =>
 CALL prog R slices_ContainsFunc_int_int.id #[v58, v60] w61 fun v62 w63 =>
 RUN prog R (Op.unary .not v62) w63 fun v64 w65 =>
 R (.returned v64) w65
def b1_6 (R : EP) (v1 v9 : Value) (w49 : World) (_r : Tok R := tok R) : Prop :=
 RUN prog R (fieldAt 61 v9 2) w49 fun v50 w51 =>
 RUN prog R (loadAt 3 v50) w51 fun v52 w53 =>
 RUN prog R (bins .eql 3 (.tmp 40) (.const (Value.int .i64 0)) v52 (Value.int .i64 0)) w53 fun v54 w55 =>
 SPL v54
 (b1_5 R v1 v9 w55)
 (R (.returned (Value.bool false)) w55)
def b1_7 (R : EP) (v1 v9 : Value) (w17 : World) (_r : Tok R := tok R) : Prop :=
 RUN prog R (fieldAt 61 v9 0) w17 fun v44 w45 =>
 RUN prog R (loadAt 3 v44) w45 fun v46 w47 =>
 RUN prog R (bins .geq 3 (.tmp 36) (.const (Value.int .i64 0)) v46 (Value.int .i64 0)) w47 fun v48 w49 =>
 SPL v48
 (b1_6 R v1 v9 w49)
 (R (.returned (Value.bool false)) w49)
def b1 (R : EP) (x0 x1 : Value) (w : World) (_r : Tok R := tok R) : Prop :=
 RUN prog R (box 3 x1) w fun v1 w2 =>
 NILC x0 fun v3 =>
 PUR prog (fieldAt 160 v3 0) fun v4 =>
 LD prog (loadAt 49 v4) (World.drew w2) fun v5 =>
 LD prog (loadAt 3 v1) (World.drew w2) fun v6 =>
 PUR prog (indexAt 49 v5 v6) fun v7 =>
 LD prog (loadAt 61 v7) (World.drew w2) fun v8 =>
 RUN prog R (alloc 61 true (.tuple #[])) (World.drew w2) fun v9 w10 =>
 Sem.run prog (loadAt 61 v7) w10 = .ok v8 w10 ∧ (Sem.run prog (loadAt 3 v1) w10 = .ok v6 w10 ∧ (Sem.run prog (loadAt 49 v4) w10 = .ok v5 w10 ∧ (RUNU prog R (storeAt 61 v9 v8) w10 fun w11 =>
 RUN prog R (fieldAt 61 v9 1) w11 fun v12 w13 =>
 RUN prog R (loadAt 3 v12) w13 fun v14 w15 =>
 RUN prog R (bins .lss 3 (.tmp 14) (.const (Value.int .i64 0)) v14 (Value.int .i64 0)) w15 fun v16 w17 =>
 SPL v16
 (b1_4 R v9 w17)
 (b1_7 R v1 v9 w17))))
abbrev r0 (R : EP) (z : Env) (w : World) : Prop := R (.returned (z 4)) w
abbrev q1 (R : EP) : XP := QX (r0 R) (r0 R) []
theorem b1_ok (R : EP) : TI prog R code (q1 R) fun z w => b1 R (z 0) (z 1) w := ofT
def run (R : EP) (a0 a1 : Value) (w : World) : Prop := b1 R a0 a1 w
theorem calls (R : EP) (a0 a1 : Value) (w : World) (h : run R a0 a1 w) : Calls prog id #[a0, a1] w R := cls_t func128 [a0, a1] (b1_ok R _ w h)
theorem enters : Enters prog id := fun args w => call128 args w
theorem ct {a0 a1 : Value} {w : World} {S : VP} (h : ∀ R : EP, (∀ v w, S v w → R (.returned v) w) → run R a0 a1 w) : Ct prog id #[a0, a1] w S :=
 Ct.intro enters fun R hR => calls R a0 a1 w (h R hR)
attribute [irreducible, go_sem] b1_1 b1_2 b1_3 b1_4 b1_5 b1_6 b1_7 b1 run
end tree_walk_sound

/-! ### (*presage/tree.proof).joined$1 -/
namespace tree_proof_joined_1
noncomputable def code : Code := bodyOf f131
def b1_1 (R : EP) (x0 x1 x2 : Value) (w13 : World) (_r : Tok R := tok R) : Prop :=
 RUN prog R (loadAt 119 x2) w13 fun v14 w15 =>
 NILC v14 fun v16 =>
 RUN prog R (fieldAt 121 v16 1) w15 fun v17 w18 =>
 RUN prog R (loadAt 49 v17) w18 fun v19 w20 =>
 RUN prog R (indexAt 49 v19 x1) w20 fun v21 w22 =>
 RUN prog R (fieldAt 61 v21 0) w22 fun v23 w24 =>
 RUN prog R (loadAt 3 v23) w24 fun v25 w26 =>
 RUN prog R (bins .eql 3 (.tmp 25) (.tmp 26) v25 x0) w26 fun v27 w28 =>
 R (.returned v27) w28
def b1_2 (R : EP) (x0 x1 x2 : Value) (w2 : World) (_r : Tok R := tok R) : Prop :=
 RUN prog R (loadAt 119 x2) w2 fun v3 w4 =>
 NILC v3 fun v5 =>
 RUN prog R (fieldAt 121 v5 1) w4 fun v6 w7 =>
 RUN prog R (loadAt 49 v6) w7 fun v8 w9 =>
 RUN prog R (Builtin.len_ #[49] 3 #[v8]) w9 fun v10 w11 =>
 RUN prog R (bins .lss 3 (.tmp 9) (.tmp 14) x1 v10) w11 fun v12 w13 =>
 SPL v12
 (b1_1 R x0 x1 x2 w13)
 (R (.returned (Value.bool false)) w13)
def b1 (R : EP) (x0 x1 x2 : Value) (w : World) (_r : Tok R := tok R) : Prop :=
 RUN prog R (bins .leq 3 (.const (Value.int .i64 0)) (.tmp 6) (Value.int .i64 0) x1) w fun v1 w2 =>
 SPL v1
 (b1_2 R x0 x1 x2 w2)
 (R (.returned (Value.bool false)) w2)
abbrev r0 (R : EP) (z : Env) (w : World) : Prop := R (.returned (z 5)) w
abbrev q1 (R : EP) : XP := QX (r0 R) (r0 R) []
theorem b1_ok (R : EP) : TI prog R code (q1 R) fun z w => b1 R (z 0) (z 1) (z 2) w := ofT
def run (R : EP) (a0 a1 a2 : Value) (w : World) : Prop := b1 R a0 a1 a2 w
theorem calls (R : EP) (a0 a1 a2 : Value) (w : World) (h : run R a0 a1 a2 w) : Calls prog id #[a0, a1, a2] w R := cls_t func131 [a0, a1, a2] (b1_ok R _ w h)
theorem enters : Enters prog id := fun args w => call131 args w
theorem ct {a0 a1 a2 : Value} {w : World} {S : VP} (h : ∀ R : EP, (∀ v w, S v w → R (.returned v) w) → run R a0 a1 a2 w) : Ct prog id #[a0, a1, a2] w S :=
 Ct.intro enters fun R hR => calls R a0 a1 a2 w (h R hR)
attribute [irreducible, go_sem] b1_1 b1_2 b1 run
end tree_proof_joined_1

/-! ### (*presage/tree.walk).sound$1 -/
namespace tree_walk_sound_1
noncomputable def code : Code := bodyOf f154
def b1_1 (R : EP) (x0 x1 : Value) (w2 : World) (_r : Tok R := tok R) : Prop :=
 RUN prog R (loadAt 3 x1) w2 fun v3 w4 =>
 RUN prog R (bins .geq 3 (.tmp 7) (.tmp 8) x0 v3) w4 fun v5 w6 =>
 R (.returned v5) w6
def b1 (R : EP) (x0 x1 : Value) (w : World) (_r : Tok R := tok R) : Prop :=
 RUN prog R (bins .lss 3 (.tmp 4) (.const (Value.int .i64 0)) x0 (Value.int .i64 0)) w fun v1 w2 =>
 SPL v1
 (R (.returned (Value.bool true)) w2)
 (b1_1 R x0 x1 w2)
abbrev r0 (R : EP) (z : Env) (w : World) : Prop := R (.returned (z 3)) w
abbrev q1 (R : EP) : XP := QX (r0 R) (r0 R) []
theorem b1_ok (R : EP) : TI prog R code (q1 R) fun z w => b1 R (z 0) (z 1) w := ofT
def run (R : EP) (a0 a1 : Value) (w : World) : Prop := b1 R a0 a1 w
theorem calls (R : EP) (a0 a1 : Value) (w : World) (h : run R a0 a1 w) : Calls prog id #[a0, a1] w R := cls_t func154 [a0, a1] (b1_ok R _ w h)
theorem enters : Enters prog id := fun args w => call154 args w
theorem ct {a0 a1 : Value} {w : World} {S : VP} (h : ∀ R : EP, (∀ v w, S v w → R (.returned v) w) → run R a0 a1 w) : Ct prog id #[a0, a1] w S :=
 Ct.intro enters fun R hR => calls R a0 a1 w (h R hR)
attribute [irreducible, go_sem] b1_1 b1 run
end tree_walk_sound_1
end Go.Proofs.Ytkacbjhiobnbfaa
