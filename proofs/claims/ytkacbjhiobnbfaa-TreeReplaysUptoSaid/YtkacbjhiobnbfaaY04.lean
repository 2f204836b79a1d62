/-
  Texts of this claim: T02Ids, T02G, T02Lib, T02R.
-/
import Derived.Test.YtkacbjhiobnbfaaProg
import Derived.Test.YtkacbjhiobnbfaaY02
/- The functions' numbers, by name. -/
namespace Go.Proofs.Ytkacbjhiobnbfaa
abbrev main_main.id : FuncId := 0
abbrev gosem_cut.id : FuncId := 1
abbrev gosem_cut_init.id : FuncId := 2
abbrev law05_ShowTexts.id : FuncId := 3
abbrev law05_ShowTwo.id : FuncId := 4
abbrev law05_ShowSmall.id : FuncId := 5
abbrev law05_ShowAll.id : FuncId := 6
abbrev law20_TreeReads.id : FuncId := 7
abbrev law20_TreeDerives.id : FuncId := 8
abbrev law20_TreeTexts.id : FuncId := 9
abbrev law20_TreeReplays.id : FuncId := 10
abbrev law20_TreeGrows.id : FuncId := 11
abbrev law20_TreeWhole.id : FuncId := 12
abbrev law20_TreeNobody.id : FuncId := 13
abbrev law02_GramWhich.id : FuncId := 14
abbrev ref02_Copy.id : FuncId := 15
abbrev show_Text.id : FuncId := 16
abbrev ref05_Text.id : FuncId := 17
abbrev ref02_Same.id : FuncId := 18
abbrev law05_awake.id : FuncId := 19
abbrev ref02_Valid.id : FuncId := 20
abbrev ref01_Lent.id : FuncId := 21
abbrev show_Row.id : FuncId := 22
abbrev ref05_Row.id : FuncId := 23
abbrev ref01_Whole.id : FuncId := 24
abbrev show_Symbol.id : FuncId := 25
abbrev ref05_Symbol.id : FuncId := 26
abbrev show_Prod.id : FuncId := 27
abbrev ref05_Prod.id : FuncId := 28
abbrev show_Item.id : FuncId := 29
abbrev ref05_Item.id : FuncId := 30
abbrev ref05_Either.id : FuncId := 31
abbrev law05_pick.id : FuncId := 32
abbrev ref20_Copy.id : FuncId := 33
abbrev tree_Frontier.id : FuncId := 34
abbrev tree_Rightmost.id : FuncId := 35
abbrev ref20_Frontier.id : FuncId := 36
abbrev ref20_Rightmost.id : FuncId := 37
abbrev ref01_Ints.id : FuncId := 38
abbrev ref20_Same.id : FuncId := 39
abbrev law20_awake.id : FuncId := 40
abbrev tree_Derives.id : FuncId := 41
abbrev ref20_Derives.id : FuncId := 42
abbrev tree_Text.id : FuncId := 43
abbrev ref20_Text.id : FuncId := 44
abbrev ref02_Closed.id : FuncId := 45
abbrev ref06_Sentence.id : FuncId := 46
abbrev ref20_Walk.id : FuncId := 47
abbrev tree_New.id : FuncId := 48
abbrev tree_Arena_Leaf.id : FuncId := 49
abbrev ref20_Arena_Leaf.id : FuncId := 50
abbrev tree_Arena_Join.id : FuncId := 51
abbrev ref20_Arena_Join.id : FuncId := 52
abbrev tree_Arena_Len.id : FuncId := 53
abbrev tree_Arena_Nodes.id : FuncId := 54
abbrev law20_pick.id : FuncId := 55
abbrev law02_awake.id : FuncId := 56
abbrev law02_lend.id : FuncId := 57
abbrev gram_Valid.id : FuncId := 58
abbrev gram_Closed.id : FuncId := 59
abbrev gram_Copy.id : FuncId := 60
abbrev gram_Same.id : FuncId := 61
abbrev law02_lent_whole.id : FuncId := 62
abbrev show_open.id : FuncId := 63
abbrev show_page_line.id : FuncId := 64
abbrev show_page_terms.id : FuncId := 65
abbrev show_Text_1.id : FuncId := 66
abbrev show_page_words.id : FuncId := 67
abbrev show_Text_2.id : FuncId := 68
abbrev show_page_name.id : FuncId := 69
abbrev show_page_grade.id : FuncId := 70
abbrev strings_Builder_Len.id : FuncId := 71
abbrev strings_Builder_String.id : FuncId := 72
abbrev ref05_terms.id : FuncId := 73
abbrev ref05_symbol.id : FuncId := 74
abbrev ref02_SameInts.id : FuncId := 75
abbrev ref02_fits.id : FuncId := 76
abbrev ref02_lefts.id : FuncId := 77
abbrev slices_ContainsFunc_int_int.id : FuncId := 78
abbrev show_Row_1.id : FuncId := 79
abbrev show_page_isSymbol.id : FuncId := 80
abbrev show_page_names.id : FuncId := 81
abbrev strings_TrimPrefix.id : FuncId := 82
abbrev show_rule.id : FuncId := 83
abbrev ref05_dotted.id : FuncId := 84
abbrev tree_below.id : FuncId := 85
abbrev tree_left.id : FuncId := 86
abbrev tree_Frontier_1.id : FuncId := 87
abbrev tree_right.id : FuncId := 88
abbrev tree_Rightmost_1.id : FuncId := 89
abbrev law20_chapter.id : FuncId := 90
abbrev tree_Derives_1.id : FuncId := 91
abbrev tree_proof_leaf.id : FuncId := 92
abbrev tree_proof_joined.id : FuncId := 93
abbrev tree_Text_1.id : FuncId := 94
abbrev strings_Builder_WriteString.id : FuncId := 95
abbrev ref06_read.id : FuncId := 96
abbrev tree_Arena_add.id : FuncId := 97
abbrev tree_Arena_free.id : FuncId := 98
abbrev slices_Clone_int_int.id : FuncId := 99
abbrev slices_Clone_api_Node_api_Node.id : FuncId := 100
abbrev gram_New.id : FuncId := 101
abbrev gram_Builder_Term.id : FuncId := 102
abbrev gram_Builder_Non.id : FuncId := 103
abbrev gram_Builder_Rule.id : FuncId := 104
abbrev gram_Builder_Grammar.id : FuncId := 105
abbrev gram_symbols.id : FuncId := 106
abbrev gram_productions.id : FuncId := 107
abbrev slices_IsSorted_int_int.id : FuncId := 108
abbrev slices_Clip_api_Term_api_Term.id : FuncId := 109
abbrev slices_Clone_api_Term_api_Term.id : FuncId := 110
abbrev slices_Clip_string_string.id : FuncId := 111
abbrev slices_Clone_string_string.id : FuncId := 112
abbrev slices_Clip_int_int.id : FuncId := 113
abbrev gram_Same_1.id : FuncId := 114
abbrev slices_Equal_int_int.id : FuncId := 115
abbrev slices_Equal_api_Term_api_Term.id : FuncId := 116
abbrev slices_Equal_string_string.id : FuncId := 117
abbrev slices_EqualFunc_api_Prod_api_Prod_api_Prod_api_Prod.id : FuncId := 118
abbrev show_page_grade_1.id : FuncId := 119
abbrev ref02_termsFit.id : FuncId := 120
abbrev ref02_levelsFit.id : FuncId := 121
abbrev ref02_nonsFit.id : FuncId := 122
abbrev ref02_prodsFit.id : FuncId := 123
abbrev ref02_Symbols.id : FuncId := 124
abbrev slices_IndexFunc_int_int.id : FuncId := 125
abbrev internal_stringslite_TrimPrefix.id : FuncId := 126
abbrev tree_walk_push.id : FuncId := 127
abbrev tree_walk_sound.id : FuncId := 128
abbrev slices_Reverse_int_int.id : FuncId := 129
abbrev slices_EqualFunc_int_int_int_int.id : FuncId := 130
abbrev tree_proof_joined_1.id : FuncId := 131
abbrev strings_Builder_copyCheck.id : FuncId := 132
abbrev ref06_Marks.id : FuncId := 133
abbrev ref06_Fits.id : FuncId := 134
abbrev ref06_chart_add.id : FuncId := 135
abbrev ref06_chart_fill.id : FuncId := 136
abbrev tree_Arena_free_1.id : FuncId := 137
abbrev gram_isTerm.id : FuncId := 138
abbrev gram_names_find.id : FuncId := 139
abbrev gram_names_size.id : FuncId := 140
abbrev gram_names_intern.id : FuncId := 141
abbrev gram_isName.id : FuncId := 142
abbrev gram_Builder_isNonHandle.id : FuncId := 143
abbrev gram_Builder_Rule_1.id : FuncId := 144
abbrev gram_Builder_isTermHandle.id : FuncId := 145
abbrev gram_unlike.id : FuncId := 146
abbrev slices_ContainsFunc_string_string.id : FuncId := 147
abbrev gram_symbols_1.id : FuncId := 148
abbrev slices_Contains_int_int.id : FuncId := 149
abbrev cmp_Less_int.id : FuncId := 150
abbrev ref02_IsTerm.id : FuncId := 151
abbrev ref02_IsName.id : FuncId := 152
abbrev internal_stringslite_HasPrefix.id : FuncId := 153
abbrev tree_walk_sound_1.id : FuncId := 154
abbrev internal_abi_NoEscape.id : FuncId := 155
abbrev strings_IndexFunc.id : FuncId := 156
abbrev gram_isTerm_1.id : FuncId := 157
abbrev strings_Clone.id : FuncId := 158
abbrev slices_IndexFunc_string_string.id : FuncId := 159
abbrev slices_Index_int_int.id : FuncId := 160
abbrev cmp_isNaN_int.id : FuncId := 161
abbrev strings_indexFunc.id : FuncId := 162
abbrev internal_stringslite_Clone.id : FuncId := 163
abbrev runtime_boundsError_Error.id : FuncId := 164
abbrev runtime_boundsError_RuntimeError.id : FuncId := 165
abbrev runtime_errorString_Error.id : FuncId := 166
abbrev runtime_errorString_RuntimeError.id : FuncId := 167
abbrev runtime_plainError_Error.id : FuncId := 168
abbrev runtime_plainError_RuntimeError.id : FuncId := 169
abbrev runtime_errorAddressString_Error.id : FuncId := 170
abbrev runtime_errorAddressString_RuntimeError.id : FuncId := 171
abbrev runtime_TypeAssertionError_Error.id : FuncId := 172
abbrev runtime_TypeAssertionError_RuntimeError.id : FuncId := 173
abbrev runtime_PanicNilError_Error.id : FuncId := 174
abbrev runtime_PanicNilError_RuntimeError.id : FuncId := 175
abbrev internal_abi_Type_Align.id : FuncId := 176
abbrev internal_runtime_maps_unhashableTypeError_Error.id : FuncId := 177
abbrev internal_runtime_maps_unhashableTypeError_RuntimeError.id : FuncId := 178
abbrev api_Errno_Error.id : FuncId := 179
abbrev strings_Builder_Reset.id : FuncId := 180
abbrev internal_abi_Kind_String.id : FuncId := 181
end Go.Proofs.Ytkacbjhiobnbfaa

/- Shallow programs, written by a program of ours (gen.py) off the translation; each is tied to the code by the kernel. -/
set_option linter.unusedVariables false
set_option maxRecDepth 100000
namespace Go.Proofs.Ytkacbjhiobnbfaa
open Go.Px Try Instr

/-! ### presage/gram.isTerm -/
namespace gram_isTerm
noncomputable def code : Code := bodyOf f138
def b1 (R : EP) (x0 : Value) (w : World) (_r : Tok R := tok R) : Prop :=
 RUN prog R (bins .neq 9 (.tmp 3) (.const (Value.string ⟨#[]⟩)) x0 (Value.string ⟨#[]⟩)) w fun v1 w2 =>
 SPL v1
 (RUN prog R (Builtin.len_ #[9] 3 #[x0]) w2 fun v3 w4 =>
 RUN prog R (bins .leq 3 (.tmp 7) (.const (Value.int .i64 16)) v3 (Value.int .i64 16)) w4 fun v5 w6 =>
 SPL v5
 (CALL prog R strings_IndexFunc.id #[x0, (Value.func (.func gram_isTerm_1.id) #[] #[])] w6 fun v7 w8 =>
 RUN prog R (bins .lss 3 (.tmp 12) (.const (Value.int .i64 0)) v7 (Value.int .i64 0)) w8 fun v9 w10 =>
 R (.returned v9) w10)
 (R (.returned (Value.bool false)) w6))
 (R (.returned (Value.bool false)) w2)
abbrev r0 (R : EP) (z : Env) (w : World) : Prop := R (.returned (z 2)) w
abbrev q1 (R : EP) : XP := QX (r0 R) (r0 R) []
theorem b1_ok (R : EP) : TI prog R code (q1 R) fun z w => b1 R (z 0) w := ofT
def run (R : EP) (a0 : Value) (w : World) : Prop := b1 R a0 w
theorem calls (R : EP) (a0 : Value) (w : World) (h : run R a0 w) : Calls prog id #[a0] w R := cls_t func138 [a0] (b1_ok R _ w h)
theorem enters : Enters prog id := fun args w => call138 args w
theorem ct {a0 : Value} {w : World} {S : VP} (h : ∀ R : EP, (∀ v w, S v w → R (.returned v) w) → run R a0 w) : Ct prog id #[a0] w S :=
 Ct.intro enters fun R hR => calls R a0 w (h R hR)
attribute [irreducible] b1 run
end gram_isTerm

/-! ### presage/gram.isName -/
namespace gram_isName
noncomputable def code : Code := bodyOf f142
noncomputable abbrev p1 : Code := dropC 1 code
def b3 (R : EP) (x0 : Value) (w : World) (_r : Tok R := tok R) : Prop :=
 RUN prog R (bins .neq 9 (.tmp 38) (.const (Value.string ⟨#[]⟩)) x0 (Value.string ⟨#[]⟩)) w fun v1 w2 =>
 SPL v1
 (RUN prog R (Builtin.len_ #[9] 3 #[x0]) w2 fun v3 w4 =>
 RUN prog R (bins .leq 3 (.tmp 42) (.const (Value.int .i64 16)) v3 (Value.int .i64 16)) w4 fun v5 w6 =>
 R (.returned v5) w6)
 (R (.returned (Value.bool false)) w2)
abbrev r0 (R : EP) (z : Env) (w : World) : Prop := R (.returned (z 2)) w
abbrev q1 (R : EP) : XP := QX (r0 R) (r0 R) []
theorem b3_ok (R : EP) : TI prog R (sndC p1) (q1 R) fun z w => b3 R (z 0) w := ofT
noncomputable abbrev p2 : Code := dropC 1 (fstC p1)
noncomputable abbrev p3 : Code := loopC (blkC p2)
noncomputable abbrev p4 : Code := dropC 2 p3

def b9 (R : EP) (C6 : VP) (x7 : Value) (w : World) (_r : Tok R := tok R) (_C6 : Tok C6 := tok C6) : Prop :=
 RUN prog R (bins .add 3 (.tmp 7) (.const (Value.int .i64 1)) x7 (Value.int .i64 1)) w fun v1 w2 =>
 C6 v1 w2
abbrev q2 (R : EP) (C6 : VP) : XP := QX (fun z w => C6 (z 7) w) (r0 R) [(0, (fun z w => b3 R (z 0) w))]
theorem b9_ok (R : EP) (C6 : VP) : TI prog R (sndC p4) (q2 R C6) fun z w => b9 R C6 (z 7) w := ofT
noncomputable abbrev p5 : Code := blkC (fstC p4)
noncomputable abbrev p6 : Code := dropC 3 p5

def b12 (R : EP) (C6 : VP) (x7 x36 : Value) (w : World) (_r : Tok R := tok R) (_C6 : Tok C6 := tok C6) : Prop :=
 SPL x36
 (R (.returned (Value.bool false)) w)
 (b9 R C6 x7 w)
abbrev q3 (R : EP) (C6 : VP) : XP := QX (fun z w => b9 R C6 (z 7) w) (r0 R) [(2, (fun z w => b9 R C6 (z 7) w)), (0, (fun z w => b3 R (z 0) w))]
theorem b12_ok (R : EP) (C6 : VP) : TI prog R p6 (q3 R C6) fun z w => b12 R C6 (z 7) (z 36) w := ofT
def b11 (R : EP) (C6 : VP) (x0 x7 : Value) (w : World) (_r : Tok R := tok R) (_C6 : Tok C6 := tok C6) : Prop :=
 RUN prog R (index 9 x0 x7) w fun v1 w2 =>
 RUN prog R (bins .neq 5 (.tmp 13) (.const (Value.int .u8 95)) v1 (Value.int .u8 95)) w2 fun v3 w4 =>
 SPL v3
 (RUN prog R (bins .or 5 (.tmp 16) (.const (Value.int .u8 32)) v1 (Value.int .u8 32)) w4 fun v5 w6 =>
 RUN prog R (bins .lss 5 (.tmp 17) (.const (Value.int .u8 97)) v5 (Value.int .u8 97)) w6 fun v7 w8 =>
 SPL v7
 (RUN prog R (bins .eql 3 (.tmp 26) (.const (Value.int .i64 0)) x7 (Value.int .i64 0)) w8 fun v9 w10 =>
 SPL v9
 (b12 R C6 x7 (Value.bool true) w10)
 (RUN prog R (bins .lss 5 (.tmp 29) (.const (Value.int .u8 48)) v1 (Value.int .u8 48)) w10 fun v11 w12 =>
 SPL v11
 (b12 R C6 x7 (Value.bool true) w12)
 (RUN prog R (bins .gtr 5 (.tmp 33) (.const (Value.int .u8 57)) v1 (Value.int .u8 57)) w12 fun v13 w14 =>
 b12 R C6 x7 v13 w14)))
 (RUN prog R (bins .or 5 (.tmp 20) (.const (Value.int .u8 32)) v1 (Value.int .u8 32)) w8 fun v15 w16 =>
 RUN prog R (bins .gtr 5 (.tmp 21) (.const (Value.int .u8 122)) v15 (Value.int .u8 122)) w16 fun v17 w18 =>
 SPL v17
 (RUN prog R (bins .eql 3 (.tmp 26) (.const (Value.int .i64 0)) x7 (Value.int .i64 0)) w18 fun v19 w20 =>
 SPL v19
 (b12 R C6 x7 (Value.bool true) w20)
 (RUN prog R (bins .lss 5 (.tmp 29) (.const (Value.int .u8 48)) v1 (Value.int .u8 48)) w20 fun v21 w22 =>
 SPL v21
 (b12 R C6 x7 (Value.bool true) w22)
 (RUN prog R (bins .gtr 5 (.tmp 33) (.const (Value.int .u8 57)) v1 (Value.int .u8 57)) w22 fun v23 w24 =>
 b12 R C6 x7 v23 w24)))
 (b12 R C6 x7 (Value.bool false) w18)))
 (b12 R C6 x7 (Value.bool false) w4)
theorem b11_ok (R : EP) (C6 : VP) : TI prog R p5 (q3 R C6) fun z w => b11 R C6 (z 0) (z 7) w := appT 2 (b12_ok R C6)
abbrev q4 (R : EP) (C6 : VP) : XP := QX (fun z w => b9 R C6 (z 7) w) (r0 R) [(0, (fun z w => b3 R (z 0) w))]
theorem k10_ok (R : EP) (C6 : VP) : TI prog R (fstC p4) (q4 R C6) fun z w => b11 R C6 (z 0) (z 7) w := blockT 1 (b11_ok R C6)
theorem k8_ok (R : EP) (C6 : VP) : TI prog R p4 (q2 R C6) fun z w => b11 R C6 (z 0) (z 7) w := seqT (k10_ok R C6) (b9_ok R C6)
def b7 (R : EP) (C6 : VP) (x0 x6 x7 : Value) (w : World) (_r : Tok R := tok R) (_C6 : Tok C6 := tok C6) : Prop :=
 RUN prog R (bins .lss 3 (.tmp 7) (.tmp 6) x7 x6) w fun v1 w2 =>
 SPL v1
 (b11 R C6 x0 x7 w2)
 (b3 R x0 w2)
theorem b7_ok (R : EP) (C6 : VP) : TI prog R p3 (q2 R C6) fun z w => b7 R C6 (z 0) (z 6) (z 7) w := appT 1 (k8_ok R C6)
def l6 (R : EP) (x0 x6 x7 : Value) (w : World) (_r : Tok R := tok R) : Prop :=
 ∃ (J : VP) (μ : Value → World → Nat), J x7 w ∧ ∀ y7 w0, J y7 w0 → b7 R (fun z7 w1 => J z7 w1 ∧ μ z7 w1 < μ y7 w0) x0 x6 y7 w0
abbrev q5 (R : EP) : XP := QX (fun z w => b3 R (z 0) w) (r0 R) [(0, (fun z w => b3 R (z 0) w))]
theorem l6_ok (R : EP) : TI prog R (blkC p2) (q5 R) fun z w => l6 R (z 0) (z 6) (z 7) w := fun z w h => by
 unfold l6 at h
 obtain ⟨J, μ, h0, hr⟩ := h
 refine loopT (fun z' w' => J (z' 7) w') (fun z' w' => μ (z' 7) w') h0 fun z' w' hA hI => b7_ok R (fun z7 w1 => J z7 w1 ∧ μ z7 w1 < μ (z' 7) w') z' w' ?_
 have h1 := hr (z' 7) w' hI
 rwa [← hA.on 0, ← hA.on 6] at h1
theorem l6_intro (R : EP) (x0 x6 x7 : Value) (w : World) (J : VP) (μ : Value → World → Nat) (h0 : J x7 w)
   (hr : ∀ y7 w0, J y7 w0 → ∀ C6 : VP, (∀ z7 w1, J z7 w1 → μ z7 w1 < μ y7 w0 → C6 z7 w1) → b7 R C6 x0 x6 y7 w0) : l6 R x0 x6 x7 w := by
 unfold l6
 exact ⟨J, μ, h0, fun y7 w0 hJ => hr y7 w0 hJ _ (fun z7 w1 h1 h2 => ⟨h1, h2⟩)⟩
abbrev q6 (R : EP) : XP := QX (fun z w => b3 R (z 0) w) (r0 R) []
theorem k5_ok (R : EP) : TI prog R p2 (q6 R) fun z w => l6 R (z 0) (z 6) (z 7) w := blockT 0 (l6_ok R)
def b4 (R : EP) (x0 : Value) (w : World) (_r : Tok R := tok R) : Prop :=
 RUN prog R (Builtin.len_ #[9] 3 #[x0]) w fun v1 w2 =>
 l6 R x0 v1 (Value.int .i64 0) w2
theorem b4_ok (R : EP) : TI prog R (fstC p1) (q6 R) fun z w => b4 R (z 0) w := appT 0 (k5_ok R)
theorem k2_ok (R : EP) : TI prog R p1 (q1 R) fun z w => b4 R (z 0) w := seqT (b4_ok R) (b3_ok R)
def b1 (R : EP) (x0 : Value) (w : World) (_r : Tok R := tok R) : Prop :=
 b4 R x0 w
theorem b1_ok (R : EP) : TI prog R code (q1 R) fun z w => b1 R (z 0) w := appT 0 (k2_ok R)
def run (R : EP) (a0 : Value) (w : World) : Prop := b1 R a0 w
theorem calls (R : EP) (a0 : Value) (w : World) (h : run R a0 w) : Calls prog id #[a0] w R := cls_t func142 [a0] (b1_ok R _ w h)
theorem enters : Enters prog id := fun args w => call142 args w
theorem ct {a0 : Value} {w : World} {S : VP} (h : ∀ R : EP, (∀ v w, S v w → R (.returned v) w) → run R a0 w) : Ct prog id #[a0] w S :=
 Ct.intro enters fun R hR => calls R a0 w (h R hR)
attribute [irreducible] b3 b9 b12 b11 b7 l6 b4 b1 run
end gram_isName

/-! ### presage/gram.isTerm$1 -/
namespace gram_isTerm_1
noncomputable def code : Code := bodyOf f157
def b1 (R : EP) (x0 : Value) (w : World) (_r : Tok R := tok R) : Prop :=
 RUN prog R (bins .lss 21 (.tmp 3) (.const (Value.int .i32 32)) x0 (Value.int .i32 32)) w fun v1 w2 =>
 SPL v1
 (R (.returned (Value.bool true)) w2)
 (RUN prog R (bins .gtr 21 (.tmp 6) (.const (Value.int .i32 126)) x0 (Value.int .i32 126)) w2 fun v3 w4 =>
 SPL v3
 (R (.returned (Value.bool true)) w4)
 (RUN prog R (bins .eql 21 (.tmp 10) (.const (Value.int .i32 39)) x0 (Value.int .i32 39)) w4 fun v5 w6 =>
 R (.returned v5) w6))
abbrev r0 (R : EP) (z : Env) (w : World) : Prop := R (.returned (z 2)) w
abbrev q1 (R : EP) : XP := QX (r0 R) (r0 R) []
theorem b1_ok (R : EP) : TI prog R code (q1 R) fun z w => b1 R (z 0) w := ofT
def run (R : EP) (a0 : Value) (w : World) : Prop := b1 R a0 w
theorem calls (R : EP) (a0 : Value) (w : World) (h : run R a0 w) : Calls prog id #[a0] w R := cls_t func157 [a0] (b1_ok R _ w h)
theorem enters : Enters prog id := fun args w => call157 args w
theorem ct {a0 : Value} {w : World} {S : VP} (h : ∀ R : EP, (∀ v w, S v w → R (.returned v) w) → run R a0 w) : Ct prog id #[a0] w S :=
 Ct.intro enters fun R hR => calls R a0 w (h R hR)
attribute [irreducible] b1 run
end gram_isTerm_1
end Go.Proofs.Ytkacbjhiobnbfaa

/- Shallow programs, written by a program of ours (gen.py) off the translation; each is tied to the code by the kernel. -/
set_option linter.unusedVariables false
set_option maxRecDepth 100000
namespace Go.Proofs.Ytkacbjhiobnbfaa
open Go.Px Try Instr

/-! ### strings.IndexFunc -/
namespace strings_IndexFunc
noncomputable def code : Code := bodyOf f156
def b1 (R : EP) (x0 x1 : Value) (w : World) (_r : Tok R := tok R) : Prop :=
 CALL prog R strings_indexFunc.id #[x0, x1, (Value.bool true)] w fun v1 w2 =>
 R (.returned v1) w2
abbrev r0 (R : EP) (z : Env) (w : World) : Prop := R (.returned (z 4)) w
abbrev q1 (R : EP) : XP := QX (r0 R) (r0 R) []
theorem b1_ok (R : EP) : TI prog R code (q1 R) fun z w => b1 R (z 0) (z 1) w := ofT
def run (R : EP) (a0 a1 : Value) (w : World) : Prop := b1 R a0 a1 w
theorem calls (R : EP) (a0 a1 : Value) (w : World) (h : run R a0 a1 w) : Calls prog id #[a0, a1] w R := cls_t func156 [a0, a1] (b1_ok R _ w h)
theorem enters : Enters prog id := fun args w => call156 args w
theorem ct {a0 a1 : Value} {w : World} {S : VP} (h : ∀ R : EP, (∀ v w, S v w → R (.returned v) w) → run R a0 a1 w) : Ct prog id #[a0, a1] w S :=
 Ct.intro enters fun R hR => calls R a0 a1 w (h R hR)
attribute [irreducible] b1 run
end strings_IndexFunc

/-! ### strings.indexFunc -/
namespace strings_indexFunc
noncomputable def code : Code := bodyOf f162
noncomputable abbrev p1 : Code := dropC 1 code

def b3 (R : EP) (w : World) (_r : Tok R := tok R) : Prop :=
 R (.returned (Value.int .i64 (-1))) w
abbrev r0 (R : EP) (z : Env) (w : World) : Prop := R (.returned (z 6)) w
abbrev q1 (R : EP) : XP := QX (r0 R) (r0 R) []
theorem b3_ok (R : EP) : TI prog R (sndC p1) (q1 R) fun z w => b3 R w := ofT
noncomputable abbrev p2 : Code := dropC 1 (fstC p1)
noncomputable abbrev p3 : Code := loopC (blkC p2)
def b7 (R : EP) (C6 : World → Prop) (x1 x2 x10 : Value) (w : World) (_r : Tok R := tok R) (_C6 : Tok C6 := tok C6) : Prop :=
 RUN prog R (next x10 true 0) w fun v1 w2 =>
 RUN prog R (extract v1 0) w2 fun v3 w4 =>
 SPL v3
 (RUN prog R (extract v1 1) w4 fun v5 w6 =>
 RUN prog R (extract v1 2) w6 fun v7 w8 =>
 CALLY prog R x1 [v7] w8 fun v9 w10 =>
 RUN prog R (bins .eql 4 (.tmp 17) (.tmp 18) v9 x2) w10 fun v11 w12 =>
 SPL v11
 (R (.returned v5) w12)
 (C6  w12))
 (b3 R w4)
abbrev q2 (R : EP) (C6 : World → Prop) : XP := QX (fun z w => C6  w) (r0 R) [(0, (fun z w => b3 R  w))]
theorem b7_ok (R : EP) (C6 : World → Prop) : TI prog R p3 (q2 R C6) fun z w => b7 R C6 (z 1) (z 2) (z 10) w := ofT
def l6 (R : EP) (x1 x2 x10 : Value) (w : World) (_r : Tok R := tok R) : Prop :=
 ∃ (J : World → Prop) (μ : World → Nat), J  w ∧ ∀ w0, J  w0 → b7 R (fun  w1 => J  w1 ∧ μ  w1 < μ  w0) x1 x2 x10 w0
abbrev q3 (R : EP) : XP := QX (fun z w => b3 R  w) (r0 R) [(0, (fun z w => b3 R  w))]
theorem l6_ok (R : EP) : TI prog R (blkC p2) (q3 R) fun z w => l6 R (z 1) (z 2) (z 10) w := fun z w h => by
 unfold l6 at h
 obtain ⟨J, μ, h0, hr⟩ := h
 refine loopT (fun z' w' => J  w') (fun z' w' => μ  w') h0 fun z' w' hA hI => b7_ok R (fun  w1 => J  w1 ∧ μ  w1 < μ  w') z' w' ?_
 have h1 := hr  w' hI
 rwa [← hA.on 1, ← hA.on 2, ← hA.on 10] at h1
theorem l6_intro (R : EP) (x1 x2 x10 : Value) (w : World) (J : World → Prop) (μ : World → Nat) (h0 : J  w)
   (hr : ∀ w0, J  w0 → ∀ C6 : World → Prop, (∀  w1, J  w1 → μ  w1 < μ  w0 → C6  w1) → b7 R C6 x1 x2 x10 w0) : l6 R x1 x2 x10 w := by
 unfold l6
 exact ⟨J, μ, h0, fun  w0 hJ => hr  w0 hJ _ (fun  w1 h1 h2 => ⟨h1, h2⟩)⟩
abbrev q4 (R : EP) : XP := QX (fun z w => b3 R  w) (r0 R) []
theorem k5_ok (R : EP) : TI prog R p2 (q4 R) fun z w => l6 R (z 1) (z 2) (z 10) w := blockT 0 (l6_ok R)
def b4 (R : EP) (x0 x1 x2 : Value) (w : World) (_r : Tok R := tok R) : Prop :=
 RUN prog R (range 9 x0) w fun v1 w2 =>
 l6 R x1 x2 v1 w2
theorem b4_ok (R : EP) : TI prog R (fstC p1) (q4 R) fun z w => b4 R (z 0) (z 1) (z 2) w := appT 0 (k5_ok R)
theorem k2_ok (R : EP) : TI prog R p1 (q1 R) fun z w => b4 R (z 0) (z 1) (z 2) w := seqT (b4_ok R) (b3_ok R)
def b1 (R : EP) (x0 x1 x2 : Value) (w : World) (_r : Tok R := tok R) : Prop :=
 b4 R x0 x1 x2 w
theorem b1_ok (R : EP) : TI prog R code (q1 R) fun z w => b1 R (z 0) (z 1) (z 2) w := appT 0 (k2_ok R)
def run (R : EP) (a0 a1 a2 : Value) (w : World) : Prop := b1 R a0 a1 a2 w
theorem calls (R : EP) (a0 a1 a2 : Value) (w : World) (h : run R a0 a1 a2 w) : Calls prog id #[a0, a1, a2] w R := cls_t func162 [a0, a1, a2] (b1_ok R _ w h)
theorem enters : Enters prog id := fun args w => call162 args w
theorem ct {a0 a1 a2 : Value} {w : World} {S : VP} (h : ∀ R : EP, (∀ v w, S v w → R (.returned v) w) → run R a0 a1 a2 w) : Ct prog id #[a0, a1, a2] w S :=
 Ct.intro enters fun R hR => calls R a0 a1 a2 w (h R hR)
attribute [irreducible] b3 b7 l6 b4 b1 run
end strings_indexFunc

/-! ### slices.ContainsFunc[[]int,int] -/
namespace slices_ContainsFunc_int_int
noncomputable def code : Code := bodyOf f78
def b1 (R : EP) (x0 x1 : Value) (w : World) (_r : Tok R := tok R) : Prop :=
 CALL prog R slices_IndexFunc_int_int.id #[x0, x1] w fun v1 w2 =>
 RUN prog R (bins .geq 3 (.tmp 7) (.const (Value.int .i64 0)) v1 (Value.int .i64 0)) w2 fun v3 w4 =>
 R (.returned v3) w4
abbrev r0 (R : EP) (z : Env) (w : World) : Prop := R (.returned (z 4)) w
abbrev q1 (R : EP) : XP := QX (r0 R) (r0 R) []
theorem b1_ok (R : EP) : TI prog R code (q1 R) fun z w => b1 R (z 0) (z 1) w := ofT
def run (R : EP) (a0 a1 : Value) (w : World) : Prop := b1 R a0 a1 w
theorem calls (R : EP) (a0 a1 : Value) (w : World) (h : run R a0 a1 w) : Calls prog id #[a0, a1] w R := cls_t func78 [a0, a1] (b1_ok R _ w h)
theorem enters : Enters prog id := fun args w => call78 args w
theorem ct {a0 a1 : Value} {w : World} {S : VP} (h : ∀ R : EP, (∀ v w, S v w → R (.returned v) w) → run R a0 a1 w) : Ct prog id #[a0, a1] w S :=
 Ct.intro enters fun R hR => calls R a0 a1 w (h R hR)
attribute [irreducible] b1 run
end slices_ContainsFunc_int_int

/-! ### slices.IndexFunc[[]int,int] -/
namespace slices_IndexFunc_int_int
noncomputable def code : Code := bodyOf f125
noncomputable abbrev p1 : Code := dropC 1 code

def b3 (R : EP) (w : World) (_r : Tok R := tok R) : Prop :=
 R (.returned (Value.int .i64 (-1))) w
abbrev r0 (R : EP) (z : Env) (w : World) : Prop := R (.returned (z 4)) w
abbrev q1 (R : EP) : XP := QX (r0 R) (r0 R) []
theorem b3_ok (R : EP) : TI prog R (sndC p1) (q1 R) fun z w => b3 R w := ofT
noncomputable abbrev p2 : Code := dropC 1 (fstC p1)
noncomputable abbrev p3 : Code := loopC (blkC p2)
def b7 (R : EP) (C6 : VP) (x0 x1 x7 x8 : Value) (w : World) (_r : Tok R := tok R) (_C6 : Tok C6 := tok C6) : Prop :=
 RUN prog R (bins .lss 3 (.tmp 8) (.tmp 7) x8 x7) w fun v1 w2 =>
 SPL v1
 (RUN prog R (indexAt 24 x0 x8) w2 fun v3 w4 =>
 RUN prog R (loadAt 3 v3) w4 fun v5 w6 =>
 CALLY prog R x1 [v5] w6 fun v7 w8 =>
 SPL v7
 (R (.returned x8) w8)
 (RUN prog R (bins .add 3 (.tmp 8) (.const (Value.int .i64 1)) x8 (Value.int .i64 1)) w8 fun v9 w10 =>
 C6 v9 w10))
 (b3 R w2)
abbrev q2 (R : EP) (C6 : VP) : XP := QX (fun z w => C6 (z 8) w) (r0 R) [(0, (fun z w => b3 R  w))]
theorem b7_ok (R : EP) (C6 : VP) : TI prog R p3 (q2 R C6) fun z w => b7 R C6 (z 0) (z 1) (z 7) (z 8) w := ofT
def l6 (R : EP) (x0 x1 x7 x8 : Value) (w : World) (_r : Tok R := tok R) : Prop :=
 ∃ (J : VP) (μ : Value → World → Nat), J x8 w ∧ ∀ y8 w0, J y8 w0 → b7 R (fun z8 w1 => J z8 w1 ∧ μ z8 w1 < μ y8 w0) x0 x1 x7 y8 w0
abbrev q3 (R : EP) : XP := QX (fun z w => b3 R  w) (r0 R) [(0, (fun z w => b3 R  w))]
theorem l6_ok (R : EP) : TI prog R (blkC p2) (q3 R) fun z w => l6 R (z 0) (z 1) (z 7) (z 8) w := fun z w h => by
 unfold l6 at h
 obtain ⟨J, μ, h0, hr⟩ := h
 refine loopT (fun z' w' => J (z' 8) w') (fun z' w' => μ (z' 8) w') h0 fun z' w' hA hI => b7_ok R (fun z8 w1 => J z8 w1 ∧ μ z8 w1 < μ (z' 8) w') z' w' ?_
 have h1 := hr (z' 8) w' hI
 rwa [← hA.on 0, ← hA.on 1, ← hA.on 7] at h1
theorem l6_intro (R : EP) (x0 x1 x7 x8 : Value) (w : World) (J : VP) (μ : Value → World → Nat) (h0 : J x8 w)
   (hr : ∀ y8 w0, J y8 w0 → ∀ C6 : VP, (∀ z8 w1, J z8 w1 → μ z8 w1 < μ y8 w0 → C6 z8 w1) → b7 R C6 x0 x1 x7 y8 w0) : l6 R x0 x1 x7 x8 w := by
 unfold l6
 exact ⟨J, μ, h0, fun y8 w0 hJ => hr y8 w0 hJ _ (fun z8 w1 h1 h2 => ⟨h1, h2⟩)⟩
abbrev q4 (R : EP) : XP := QX (fun z w => b3 R  w) (r0 R) []
theorem k5_ok (R : EP) : TI prog R p2 (q4 R) fun z w => l6 R (z 0) (z 1) (z 7) (z 8) w := blockT 0 (l6_ok R)
def b4 (R : EP) (x0 x1 : Value) (w : World) (_r : Tok R := tok R) : Prop :=
 RUN prog R (Builtin.len_ #[24] 3 #[x0]) w fun v1 w2 =>
 l6 R x0 x1 v1 (Value.int .i64 0) w2
theorem b4_ok (R : EP) : TI prog R (fstC p1) (q4 R) fun z w => b4 R (z 0) (z 1) w := appT 0 (k5_ok R)
theorem k2_ok (R : EP) : TI prog R p1 (q1 R) fun z w => b4 R (z 0) (z 1) w := seqT (b4_ok R) (b3_ok R)
def b1 (R : EP) (x0 x1 : Value) (w : World) (_r : Tok R := tok R) : Prop :=
 b4 R x0 x1 w
theorem b1_ok (R : EP) : TI prog R code (q1 R) fun z w => b1 R (z 0) (z 1) w := appT 0 (k2_ok R)
def run (R : EP) (a0 a1 : Value) (w : World) : Prop := b1 R a0 a1 w
theorem calls (R : EP) (a0 a1 : Value) (w : World) (h : run R a0 a1 w) : Calls prog id #[a0, a1] w R := cls_t func125 [a0, a1] (b1_ok R _ w h)
theorem enters : Enters prog id := fun args w => call125 args w
theorem ct {a0 a1 : Value} {w : World} {S : VP} (h : ∀ R : EP, (∀ v w, S v w → R (.returned v) w) → run R a0 a1 w) : Ct prog id #[a0, a1] w S :=
 Ct.intro enters fun R hR => calls R a0 a1 w (h R hR)
attribute [irreducible] b3 b7 l6 b4 b1 run
end slices_IndexFunc_int_int

/-! ### slices.Clone[[]int,int] -/
namespace slices_Clone_int_int
noncomputable def code : Code := bodyOf f99
def b1 (R : EP) (x0 : Value) (w : World) (_r : Tok R := tok R) : Prop :=
 RUN prog R (bins .eql 24 (.tmp 3) (.const (Value.slice Option.none 0 0)) x0 (Value.slice Option.none 0 0)) w fun v1 w2 =>
 SPL v1
 (R (.returned (Value.slice Option.none 0 0)) w2)
 (RUN prog R (buildSlice 24 0 #[]) w2 fun v3 w4 =>
 RUN prog R (Builtin.append_ #[24, 24] 24 #[v3, x0]) w4 fun v5 w6 =>
 R (.returned v5) w6)
abbrev r0 (R : EP) (z : Env) (w : World) : Prop := R (.returned (z 2)) w
abbrev q1 (R : EP) : XP := QX (r0 R) (r0 R) []
theorem b1_ok (R : EP) : TI prog R code (q1 R) fun z w => b1 R (z 0) w := ofT
def run (R : EP) (a0 : Value) (w : World) : Prop := b1 R a0 w
theorem calls (R : EP) (a0 : Value) (w : World) (h : run R a0 w) : Calls prog id #[a0] w R := cls_t func99 [a0] (b1_ok R _ w h)
theorem enters : Enters prog id := fun args w => call99 args w
theorem ct {a0 : Value} {w : World} {S : VP} (h : ∀ R : EP, (∀ v w, S v w → R (.returned v) w) → run R a0 w) : Ct prog id #[a0] w S :=
 Ct.intro enters fun R hR => calls R a0 w (h R hR)
attribute [irreducible] b1 run
end slices_Clone_int_int
end Go.Proofs.Ytkacbjhiobnbfaa

/- Shallow programs, written by a program of ours (gen.py) off the translation; each is tied to the code by the kernel. -/
set_option linter.unusedVariables false
set_option maxRecDepth 100000
namespace Go.Proofs.Ytkacbjhiobnbfaa
open Go.Px Try Instr

/-! ### presage/presageref02.IsTerm -/
namespace ref02_IsTerm
noncomputable def code : Code := bodyOf f151
noncomputable abbrev p1 : Code := dropC 1 code
def b3 (R : EP) (x0 : Value) (w : World) (_r : Tok R := tok R) : Prop :=
 RUN prog R (Builtin.len_ #[9] 3 #[x0]) w fun v1 w2 =>
 RUN prog R (bins .geq 3 (.tmp 27) (.const (Value.int .i64 1)) v1 (Value.int .i64 1)) w2 fun v3 w4 =>
 SPL v3
 (RUN prog R (Builtin.len_ #[9] 3 #[x0]) w4 fun v5 w6 =>
 RUN prog R (bins .leq 3 (.tmp 31) (.const (Value.int .i64 16)) v5 (Value.int .i64 16)) w6 fun v7 w8 =>
 R (.returned v7) w8)
 (R (.returned (Value.bool false)) w4)
abbrev r0 (R : EP) (z : Env) (w : World) : Prop := R (.returned (z 2)) w
abbrev q1 (R : EP) : XP := QX (r0 R) (r0 R) []
theorem b3_ok (R : EP) : TI prog R (sndC p1) (q1 R) fun z w => b3 R (z 0) w := ofT
noncomputable abbrev p2 : Code := dropC 1 (fstC p1)
noncomputable abbrev p3 : Code := loopC (blkC p2)
noncomputable abbrev p4 : Code := dropC 1 p3
def b9 (R : EP) (C6 : VP) (x3 : Value) (w : World) (_r : Tok R := tok R) (_C6 : Tok C6 := tok C6) : Prop :=
 RUN prog R (bins .add 3 (.tmp 8) (.const (Value.int .i64 1)) x3 (Value.int .i64 1)) w fun v1 w2 =>
 C6 v1 w2
abbrev q2 (R : EP) (C6 : VP) : XP := QX (fun z w => C6 (z 3) w) (r0 R) [(0, (fun z w => b3 R (z 0) w))]
theorem b9_ok (R : EP) (C6 : VP) : TI prog R (sndC p4) (q2 R C6) fun z w => b9 R C6 (z 3) w := ofT
noncomputable abbrev p5 : Code := blkC (fstC p4)
noncomputable abbrev p6 : Code := dropC 1 p5
def b12 (R : EP) (C6 : VP) (x3 x25 : Value) (w : World) (_r : Tok R := tok R) (_C6 : Tok C6 := tok C6) : Prop :=
 SPL x25
 (R (.returned (Value.bool false)) w)
 (b9 R C6 x3 w)
abbrev q3 (R : EP) (C6 : VP) : XP := QX (fun z w => b9 R C6 (z 3) w) (r0 R) [(2, (fun z w => b9 R C6 (z 3) w)), (0, (fun z w => b3 R (z 0) w))]
theorem b12_ok (R : EP) (C6 : VP) : TI prog R p6 (q3 R C6) fun z w => b12 R C6 (z 3) (z 25) w := ofT
def b11 (R : EP) (C6 : VP) (x0 x3 : Value) (w : World) (_r : Tok R := tok R) (_C6 : Tok C6 := tok C6) : Prop :=
 RUN prog R (index 9 x0 x3) w fun v1 w2 =>
 RUN prog R (bins .lss 5 (.tmp 12) (.const (Value.int .u8 32)) v1 (Value.int .u8 32)) w2 fun v3 w4 =>
 SPL v3
 (b12 R C6 x3 (Value.bool true) w4)
 (RUN prog R (index 9 x0 x3) w4 fun v5 w6 =>
 RUN prog R (bins .gtr 5 (.tmp 17) (.const (Value.int .u8 126)) v5 (Value.int .u8 126)) w6 fun v7 w8 =>
 SPL v7
 (b12 R C6 x3 (Value.bool true) w8)
 (RUN prog R (index 9 x0 x3) w8 fun v9 w10 =>
 RUN prog R (bins .eql 5 (.tmp 23) (.const (Value.int .u8 39)) v9 (Value.int .u8 39)) w10 fun v11 w12 =>
 b12 R C6 x3 v11 w12))
theorem b11_ok (R : EP) (C6 : VP) : TI prog R p5 (q3 R C6) fun z w => b11 R C6 (z 0) (z 3) w := appT 0 (b12_ok R C6)
abbrev q4 (R : EP) (C6 : VP) : XP := QX (fun z w => b9 R C6 (z 3) w) (r0 R) [(0, (fun z w => b3 R (z 0) w))]
theorem k10_ok (R : EP) (C6 : VP) : TI prog R (fstC p4) (q4 R C6) fun z w => b11 R C6 (z 0) (z 3) w := blockT 1 (b11_ok R C6)
theorem k8_ok (R : EP) (C6 : VP) : TI prog R p4 (q2 R C6) fun z w => b11 R C6 (z 0) (z 3) w := seqT (k10_ok R C6) (b9_ok R C6)
def b7 (R : EP) (C6 : VP) (x0 x3 : Value) (w : World) (_r : Tok R := tok R) (_C6 : Tok C6 := tok C6) : Prop :=
 RUN prog R (Builtin.len_ #[9] 3 #[x0]) w fun v1 w2 =>
 RUN prog R (bins .lss 3 (.tmp 4) (.tmp 6) x3 v1) w2 fun v3 w4 =>
 SPL v3
 (b11 R C6 x0 x3 w4)
 (b3 R x0 w4)
theorem b7_ok (R : EP) (C6 : VP) : TI prog R p3 (q2 R C6) fun z w => b7 R C6 (z 0) (z 3) w := appT 0 (k8_ok R C6)
def l6 (R : EP) (x0 x3 : Value) (w : World) (_r : Tok R := tok R) : Prop :=
 ∃ (J : VP) (μ : Value → World → Nat), J x3 w ∧ ∀ y3 w0, J y3 w0 → b7 R (fun z3 w1 => J z3 w1 ∧ μ z3 w1 < μ y3 w0) x0 y3 w0
abbrev q5 (R : EP) : XP := QX (fun z w => b3 R (z 0) w) (r0 R) [(0, (fun z w => b3 R (z 0) w))]
theorem l6_ok (R : EP) : TI prog R (blkC p2) (q5 R) fun z w => l6 R (z 0) (z 3) w := fun z w h => by
 unfold l6 at h
 obtain ⟨J, μ, h0, hr⟩ := h
 refine loopT (fun z' w' => J (z' 3) w') (fun z' w' => μ (z' 3) w') h0 fun z' w' hA hI => b7_ok R (fun z3 w1 => J z3 w1 ∧ μ z3 w1 < μ (z' 3) w') z' w' ?_
 have h1 := hr (z' 3) w' hI
 rwa [← hA.on 0] at h1
theorem l6_intro (R : EP) (x0 x3 : Value) (w : World) (J : VP) (μ : Value → World → Nat) (h0 : J x3 w)
   (hr : ∀ y3 w0, J y3 w0 → ∀ C6 : VP, (∀ z3 w1, J z3 w1 → μ z3 w1 < μ y3 w0 → C6 z3 w1) → b7 R C6 x0 y3 w0) : l6 R x0 x3 w := by
 unfold l6
 exact ⟨J, μ, h0, fun y3 w0 hJ => hr y3 w0 hJ _ (fun z3 w1 h1 h2 => ⟨h1, h2⟩)⟩
abbrev q6 (R : EP) : XP := QX (fun z w => b3 R (z 0) w) (r0 R) []
theorem k5_ok (R : EP) : TI prog R p2 (q6 R) fun z w => l6 R (z 0) (z 3) w := blockT 0 (l6_ok R)
def b4 (R : EP) (x0 : Value) (w : World) (_r : Tok R := tok R) : Prop :=
 l6 R x0 (Value.int .i64 0) w
theorem b4_ok (R : EP) : TI prog R (fstC p1) (q6 R) fun z w => b4 R (z 0) w := appT 0 (k5_ok R)
theorem k2_ok (R : EP) : TI prog R p1 (q1 R) fun z w => b4 R (z 0) w := seqT (b4_ok R) (b3_ok R)
def b1 (R : EP) (x0 : Value) (w : World) (_r : Tok R := tok R) : Prop :=
 b4 R x0 w
theorem b1_ok (R : EP) : TI prog R code (q1 R) fun z w => b1 R (z 0) w := appT 0 (k2_ok R)
def run (R : EP) (a0 : Value) (w : World) : Prop := b1 R a0 w
theorem calls (R : EP) (a0 : Value) (w : World) (h : run R a0 w) : Calls prog id #[a0] w R := cls_t func151 [a0] (b1_ok R _ w h)
theorem enters : Enters prog id := fun args w => call151 args w
theorem ct {a0 : Value} {w : World} {S : VP} (h : ∀ R : EP, (∀ v w, S v w → R (.returned v) w) → run R a0 w) : Ct prog id #[a0] w S :=
 Ct.intro enters fun R hR => calls R a0 w (h R hR)
attribute [irreducible] b3 b9 b12 b11 b7 l6 b4 b1 run
end ref02_IsTerm

/-! ### presage/presageref02.IsName -/
namespace ref02_IsName
noncomputable def code : Code := bodyOf f152
noncomputable abbrev p1 : Code := dropC 1 code

def b3 (R : EP) (x0 : Value) (w : World) (_r : Tok R := tok R) : Prop :=
 RUN prog R (Builtin.len_ #[9] 3 #[x0]) w fun v1 w2 =>
 RUN prog R (bins .geq 3 (.tmp 61) (.const (Value.int .i64 1)) v1 (Value.int .i64 1)) w2 fun v3 w4 =>
 SPL v3
 (RUN prog R (Builtin.len_ #[9] 3 #[x0]) w4 fun v5 w6 =>
 RUN prog R (bins .leq 3 (.tmp 65) (.const (Value.int .i64 16)) v5 (Value.int .i64 16)) w6 fun v7 w8 =>
 R (.returned v7) w8)
 (R (.returned (Value.bool false)) w4)
abbrev r0 (R : EP) (z : Env) (w : World) : Prop := R (.returned (z 2)) w
abbrev q1 (R : EP) : XP := QX (r0 R) (r0 R) []
theorem b3_ok (R : EP) : TI prog R (sndC p1) (q1 R) fun z w => b3 R (z 0) w := ofT
noncomputable abbrev p2 : Code := dropC 1 (fstC p1)
noncomputable abbrev p3 : Code := loopC (blkC p2)
noncomputable abbrev p4 : Code := dropC 1 p3

def b9 (R : EP) (C6 : VP) (x3 : Value) (w : World) (_r : Tok R := tok R) (_C6 : Tok C6 := tok C6) : Prop :=
 RUN prog R (bins .add 3 (.tmp 10) (.const (Value.int .i64 1)) x3 (Value.int .i64 1)) w fun v1 w2 =>
 C6 v1 w2
abbrev q2 (R : EP) (C6 : VP) : XP := QX (fun z w => C6 (z 3) w) (r0 R) [(0, (fun z w => b3 R (z 0) w))]
theorem b9_ok (R : EP) (C6 : VP) : TI prog R (sndC p4) (q2 R C6) fun z w => b9 R C6 (z 3) w := ofT
noncomputable abbrev p5 : Code := blkC (fstC p4)
noncomputable abbrev p6 : Code := dropC 1 p5
noncomputable abbrev p7 : Code := dropC 1 p6
noncomputable abbrev p8 : Code := dropC 1 p7

def b14 (R : EP) (C6 : VP) (x3 x59 : Value) (w : World) (_r : Tok R := tok R) (_C6 : Tok C6 := tok C6) : Prop :=
 SPL x59
 (R (.returned (Value.bool false)) w)
 (b9 R C6 x3 w)
abbrev q3 (R : EP) (C6 : VP) : XP := QX (fun z w => b9 R C6 (z 3) w) (r0 R) [(2, (fun z w => b9 R C6 (z 3) w)), (0, (fun z w => b3 R (z 0) w))]
theorem b14_ok (R : EP) (C6 : VP) : TI prog R p8 (q3 R C6) fun z w => b14 R C6 (z 3) (z 59) w := ofT

def b13 (R : EP) (C6 : VP) (x3 x4 x5 : Value) (w : World) (_r : Tok R := tok R) (_C6 : Tok C6 := tok C6) : Prop :=
 RUN prog R (Op.unary .not x4) w fun v1 w2 =>
 SPL v1
 (RUN prog R (Op.unary .not x5) w2 fun v3 w4 =>
 b14 R C6 x3 v3 w4)
 (b14 R C6 x3 (Value.bool false) w2)
theorem b13_ok (R : EP) (C6 : VP) : TI prog R p7 (q3 R C6) fun z w => b13 R C6 (z 3) (z 4) (z 5) w := appT 0 (b14_ok R C6)

def b12 (R : EP) (C6 : VP) (x0 x3 x4 : Value) (w : World) (_r : Tok R := tok R) (_C6 : Tok C6 := tok C6) : Prop :=
 RUN prog R (index 9 x0 x3) w fun v1 w2 =>
 RUN prog R (bins .geq 5 (.tmp 42) (.const (Value.int .u8 48)) v1 (Value.int .u8 48)) w2 fun v3 w4 =>
 SPL v3
 (RUN prog R (index 9 x0 x3) w4 fun v5 w6 =>
 RUN prog R (bins .leq 5 (.tmp 47) (.const (Value.int .u8 57)) v5 (Value.int .u8 57)) w6 fun v7 w8 =>
 SPL v7
 (RUN prog R (bins .gtr 3 (.tmp 51) (.const (Value.int .i64 0)) x3 (Value.int .i64 0)) w8 fun v9 w10 =>
 b13 R C6 x3 x4 v9 w10)
 (b13 R C6 x3 x4 (Value.bool false) w8))
 (b13 R C6 x3 x4 (Value.bool false) w4)
theorem b12_ok (R : EP) (C6 : VP) : TI prog R p6 (q3 R C6) fun z w => b12 R C6 (z 0) (z 3) (z 4) w := appT 0 (b13_ok R C6)

def b11 (R : EP) (C6 : VP) (x0 x3 : Value) (w : World) (_r : Tok R := tok R) (_C6 : Tok C6 := tok C6) : Prop :=
 RUN prog R (index 9 x0 x3) w fun v1 w2 =>
 RUN prog R (bins .geq 5 (.tmp 14) (.const (Value.int .u8 65)) v1 (Value.int .u8 65)) w2 fun v3 w4 =>
 SPL v3
 (RUN prog R (index 9 x0 x3) w4 fun v5 w6 =>
 RUN prog R (bins .leq 5 (.tmp 19) (.const (Value.int .u8 90)) v5 (Value.int .u8 90)) w6 fun v7 w8 =>
 SPL v7
 (b12 R C6 x0 x3 (Value.bool true) w8)
 (RUN prog R (index 9 x0 x3) w8 fun v9 w10 =>
 RUN prog R (bins .geq 5 (.tmp 25) (.const (Value.int .u8 97)) v9 (Value.int .u8 97)) w10 fun v11 w12 =>
 SPL v11
 (RUN prog R (index 9 x0 x3) w12 fun v13 w14 =>
 RUN prog R (bins .leq 5 (.tmp 30) (.const (Value.int .u8 122)) v13 (Value.int .u8 122)) w14 fun v15 w16 =>
 SPL v15
 (b12 R C6 x0 x3 (Value.bool true) w16)
 (RUN prog R (index 9 x0 x3) w16 fun v17 w18 =>
 RUN prog R (bins .eql 5 (.tmp 37) (.const (Value.int .u8 95)) v17 (Value.int .u8 95)) w18 fun v19 w20 =>
 b12 R C6 x0 x3 v19 w20))
 (RUN prog R (index 9 x0 x3) w12 fun v21 w22 =>
 RUN prog R (bins .eql 5 (.tmp 37) (.const (Value.int .u8 95)) v21 (Value.int .u8 95)) w22 fun v23 w24 =>
 b12 R C6 x0 x3 v23 w24)))
 (RUN prog R (index 9 x0 x3) w4 fun v25 w26 =>
 RUN prog R (bins .geq 5 (.tmp 25) (.const (Value.int .u8 97)) v25 (Value.int .u8 97)) w26 fun v27 w28 =>
 SPL v27
 (RUN prog R (index 9 x0 x3) w28 fun v29 w30 =>
 RUN prog R (bins .leq 5 (.tmp 30) (.const (Value.int .u8 122)) v29 (Value.int .u8 122)) w30 fun v31 w32 =>
 SPL v31
 (b12 R C6 x0 x3 (Value.bool true) w32)
 (RUN prog R (index 9 x0 x3) w32 fun v33 w34 =>
 RUN prog R (bins .eql 5 (.tmp 37) (.const (Value.int .u8 95)) v33 (Value.int .u8 95)) w34 fun v35 w36 =>
 b12 R C6 x0 x3 v35 w36))
 (RUN prog R (index 9 x0 x3) w28 fun v37 w38 =>
 RUN prog R (bins .eql 5 (.tmp 37) (.const (Value.int .u8 95)) v37 (Value.int .u8 95)) w38 fun v39 w40 =>
 b12 R C6 x0 x3 v39 w40))
theorem b11_ok (R : EP) (C6 : VP) : TI prog R p5 (q3 R C6) fun z w => b11 R C6 (z 0) (z 3) w := appT 0 (b12_ok R C6)
abbrev q4 (R : EP) (C6 : VP) : XP := QX (fun z w => b9 R C6 (z 3) w) (r0 R) [(0, (fun z w => b3 R (z 0) w))]
theorem k10_ok (R : EP) (C6 : VP) : TI prog R (fstC p4) (q4 R C6) fun z w => b11 R C6 (z 0) (z 3) w := blockT 1 (b11_ok R C6)
theorem k8_ok (R : EP) (C6 : VP) : TI prog R p4 (q2 R C6) fun z w => b11 R C6 (z 0) (z 3) w := seqT (k10_ok R C6) (b9_ok R C6)

def b7 (R : EP) (C6 : VP) (x0 x3 : Value) (w : World) (_r : Tok R := tok R) (_C6 : Tok C6 := tok C6) : Prop :=
 RUN prog R (Builtin.len_ #[9] 3 #[x0]) w fun v1 w2 =>
 RUN prog R (bins .lss 3 (.tmp 6) (.tmp 8) x3 v1) w2 fun v3 w4 =>
 SPL v3
 (b11 R C6 x0 x3 w4)
 (b3 R x0 w4)
theorem b7_ok (R : EP) (C6 : VP) : TI prog R p3 (q2 R C6) fun z w => b7 R C6 (z 0) (z 3) w := appT 0 (k8_ok R C6)

def l6 (R : EP) (x0 x3 : Value) (w : World) (_r : Tok R := tok R) : Prop :=
 ∃ (J : VP) (μ : Value → World → Nat), J x3 w ∧ ∀ y3 w0, J y3 w0 → b7 R (fun z3 w1 => J z3 w1 ∧ μ z3 w1 < μ y3 w0) x0 y3 w0
abbrev q5 (R : EP) : XP := QX (fun z w => b3 R (z 0) w) (r0 R) [(0, (fun z w => b3 R (z 0) w))]
theorem l6_ok (R : EP) : TI prog R (blkC p2) (q5 R) fun z w => l6 R (z 0) (z 3) w := fun z w h => by
 unfold l6 at h
 obtain ⟨J, μ, h0, hr⟩ := h
 refine loopT (fun z' w' => J (z' 3) w') (fun z' w' => μ (z' 3) w') h0 fun z' w' hA hI => b7_ok R (fun z3 w1 => J z3 w1 ∧ μ z3 w1 < μ (z' 3) w') z' w' ?_
 have h1 := hr (z' 3) w' hI
 rwa [← hA.on 0] at h1
theorem l6_intro (R : EP) (x0 x3 : Value) (w : World) (J : VP) (μ : Value → World → Nat) (h0 : J x3 w)
   (hr : ∀ y3 w0, J y3 w0 → ∀ C6 : VP, (∀ z3 w1, J z3 w1 → μ z3 w1 < μ y3 w0 → C6 z3 w1) → b7 R C6 x0 y3 w0) : l6 R x0 x3 w := by
 unfold l6
 exact ⟨J, μ, h0, fun y3 w0 hJ => hr y3 w0 hJ _ (fun z3 w1 h1 h2 => ⟨h1, h2⟩)⟩
abbrev q6 (R : EP) : XP := QX (fun z w => b3 R (z 0) w) (r0 R) []
theorem k5_ok (R : EP) : TI prog R p2 (q6 R) fun z w => l6 R (z 0) (z 3) w := blockT 0 (l6_ok R)

def b4 (R : EP) (x0 : Value) (w : World) (_r : Tok R := tok R) : Prop :=
 l6 R x0 (Value.int .i64 0) w
theorem b4_ok (R : EP) : TI prog R (fstC p1) (q6 R) fun z w => b4 R (z 0) w := appT 0 (k5_ok R)
theorem k2_ok (R : EP) : TI prog R p1 (q1 R) fun z w => b4 R (z 0) w := seqT (b4_ok R) (b3_ok R)

def b1 (R : EP) (x0 : Value) (w : World) (_r : Tok R := tok R) : Prop :=
 b4 R x0 w
theorem b1_ok (R : EP) : TI prog R code (q1 R) fun z w => b1 R (z 0) w := appT 0 (k2_ok R)
def run (R : EP) (a0 : Value) (w : World) : Prop := b1 R a0 w
theorem calls (R : EP) (a0 : Value) (w : World) (h : run R a0 w) : Calls prog id #[a0] w R := cls_t func152 [a0] (b1_ok R _ w h)
theorem enters : Enters prog id := fun args w => call152 args w
theorem ct {a0 : Value} {w : World} {S : VP} (h : ∀ R : EP, (∀ v w, S v w → R (.returned v) w) → run R a0 w) : Ct prog id #[a0] w S :=
 Ct.intro enters fun R hR => calls R a0 w (h R hR)
attribute [irreducible] b3 b9 b14 b13 b12 b11 b7 l6 b4 b1 run
end ref02_IsName

end Go.Proofs.Ytkacbjhiobnbfaa
