/-
  Texts of this claim: T02Ids, T02G, T02Lib, T02R.
-/
import Derived.Test.YtkacbjhiobnbfaaProg
import Derived.Test.YtkacbjhiobnbfaaPa
/- The functions' numbers, by name. -/
namespace Go.Proofs.Ytkacbjhiobnbfaa
abbrev main_main.id : FuncId := 0
abbrev gosem_cut.id : FuncId := 1
abbrev gosem_cut_init.id : FuncId := 2
abbrev law05_ShowTexts.id : FuncId := 3
abbrev law05_ShowTwo.id : FuncId := 4
abbrev law05_ShowSmall.id : FuncId := 5
abbrev law05_ShowAll.id : FuncId := 6
abbrev law20_TreeReads.id : FuncId := 7
abbrev law20_TreeDerives.id : FuncId := 8
abbrev law20_TreeTexts.id : FuncId := 9
abbrev law20_TreeReplays.id : FuncId := 10
abbrev law20_TreeGrows.id : FuncId := 11
abbrev law20_TreeWhole.id : FuncId := 12
abbrev law20_TreeNobody.id : FuncId := 13
abbrev law02_GramWhich.id : FuncId := 14
abbrev ref02_Copy.id : FuncId := 15
abbrev show_Text.id : FuncId := 16
abbrev ref05_Text.id : FuncId := 17
abbrev ref02_Same.id : FuncId := 18
abbrev law05_awake.id : FuncId := 19
abbrev ref02_Valid.id : FuncId := 20
abbrev ref01_Lent.id : FuncId := 21
abbrev show_Row.id : FuncId := 22
abbrev ref05_Row.id : FuncId := 23
abbrev ref01_Whole.id : FuncId := 24
abbrev show_Symbol.id : FuncId := 25
abbrev ref05_Symbol.id : FuncId := 26
abbrev show_Prod.id : FuncId := 27
abbrev ref05_Prod.id : FuncId := 28
abbrev show_Item.id : FuncId := 29
abbrev ref05_Item.id : FuncId := 30
abbrev ref05_Either.id : FuncId := 31
abbrev law05_pick.id : FuncId := 32
abbrev ref20_Copy.id : FuncId := 33
abbrev tree_Frontier.id : FuncId := 34
abbrev tree_Rightmost.id : FuncId := 35
abbrev ref20_Frontier.id : FuncId := 36
abbrev ref20_Rightmost.id : FuncId := 37
abbrev ref01_Ints.id : FuncId := 38
abbrev ref20_Same.id : FuncId := 39
abbrev law20_awake.id : FuncId := 40
abbrev tree_Derives.id : FuncId := 41
abbrev ref20_Derives.id : FuncId := 42
abbrev tree_Text.id : FuncId := 43
abbrev ref20_Text.id : FuncId := 44
abbrev ref02_Closed.id : FuncId := 45
abbrev ref06_Sentence.id : FuncId := 46
abbrev ref20_Walk.id : FuncId := 47
abbrev tree_New.id : FuncId := 48
abbrev tree_Arena_Leaf.id : FuncId := 49
abbrev ref20_Arena_Leaf.id : FuncId := 50
abbrev tree_Arena_Join.id : FuncId := 51
abbrev ref20_Arena_Join.id : FuncId := 52
abbrev tree_Arena_Len.id : FuncId := 53
abbrev tree_Arena_Nodes.id : FuncId := 54
abbrev law20_pick.id : FuncId := 55
abbrev law02_awake.id : FuncId := 56
abbrev law02_lend.id : FuncId := 57
abbrev gram_Valid.id : FuncId := 58
abbrev gram_Closed.id : FuncId := 59
abbrev gram_Copy.id : FuncId := 60
abbrev gram_Same.id : FuncId := 61
abbrev law02_lent_whole.id : FuncId := 62
abbrev show_open.id : FuncId := 63
abbrev show_page_line.id : FuncId := 64
abbrev show_page_terms.id : FuncId := 65
abbrev show_Text_1.id : FuncId := 66
abbrev show_page_words.id : FuncId := 67
abbrev show_Text_2.id : FuncId := 68
abbrev show_page_name.id : FuncId := 69
abbrev show_page_grade.id : FuncId := 70
abbrev strings_Builder_Len.id : FuncId := 71
abbrev strings_Builder_String.id : FuncId := 72
abbrev ref05_terms.id : FuncId := 73
abbrev ref05_symbol.id : FuncId := 74
abbrev ref02_SameInts.id : FuncId := 75
abbrev ref02_fits.id : FuncId := 76
abbrev ref02_lefts.id : FuncId := 77
abbrev slices_ContainsFunc_int_int.id : FuncId := 78
abbrev show_Row_1.id : FuncId := 79
abbrev show_page_isSymbol.id : FuncId := 80
abbrev show_page_names.id : FuncId := 81
abbrev strings_TrimPrefix.id : FuncId := 82
abbrev show_rule.id : FuncId := 83
abbrev ref05_dotted.id : FuncId := 84
abbrev tree_below.id : FuncId := 85
abbrev tree_left.id : FuncId := 86
abbrev tree_Frontier_1.id : FuncId := 87
abbrev tree_right.id : FuncId := 88
abbrev tree_Rightmost_1.id : FuncId := 89
abbrev law20_chapter.id : FuncId := 90
abbrev tree_Derives_1.id : FuncId := 91
abbrev tree_proof_leaf.id : FuncId := 92
abbrev tree_proof_joined.id : FuncId := 93
abbrev tree_Text_1.id : FuncId := 94
abbrev strings_Builder_WriteString.id : FuncId := 95
abbrev ref06_read.id : FuncId := 96
abbrev tree_Arena_add.id : FuncId := 97
abbrev tree_Arena_free.id : FuncId := 98
abbrev slices_Clone_int_int.id : FuncId := 99
abbrev slices_Clone_api_Node_api_Node.id : FuncId := 100
abbrev gram_New.id : FuncId := 101
abbrev gram_Builder_Term.id : FuncId := 102
abbrev gram_Builder_Non.id : FuncId := 103
abbrev gram_Builder_Rule.id : FuncId := 104
abbrev gram_Builder_Grammar.id : FuncId := 105
abbrev gram_symbols.id : FuncId := 106
abbrev gram_productions.id : FuncId := 107
abbrev slices_IsSorted_int_int.id : FuncId := 108
abbrev slices_Clip_api_Term_api_Term.id : FuncId := 109
abbrev slices_Clone_api_Term_api_Term.id : FuncId := 110
abbrev slices_Clip_string_string.id : FuncId := 111
abbrev slices_Clone_string_string.id : FuncId := 112
abbrev slices_Clip_int_int.id : FuncId := 113
abbrev gram_Same_1.id : FuncId := 114
abbrev slices_Equal_int_int.id : FuncId := 115
abbrev slices_Equal_api_Term_api_Term.id : FuncId := 116
abbrev slices_Equal_string_string.id : FuncId := 117
abbrev slices_EqualFunc_api_Prod_api_Prod_api_Prod_api_Prod.id : FuncId := 118
abbrev show_page_grade_1.id : FuncId := 119
abbrev ref02_termsFit.id : FuncId := 120
abbrev ref02_levelsFit.id : FuncId := 121
abbrev ref02_nonsFit.id : FuncId := 122
abbrev ref02_prodsFit.id : FuncId := 123
abbrev ref02_Symbols.id : FuncId := 124
abbrev slices_IndexFunc_int_int.id : FuncId := 125
abbrev internal_stringslite_TrimPrefix.id : FuncId := 126
abbrev tree_walk_push.id : FuncId := 127
abbrev tree_walk_sound.id : FuncId := 128
abbrev slices_Reverse_int_int.id : FuncId := 129
abbrev slices_EqualFunc_int_int_int_int.id : FuncId := 130
abbrev tree_proof_joined_1.id : FuncId := 131
abbrev strings_Builder_copyCheck.id : FuncId := 132
abbrev ref06_Marks.id : FuncId := 133
abbrev ref06_Fits.id : FuncId := 134
abbrev ref06_chart_add.id : FuncId := 135
abbrev ref06_chart_fill.id : FuncId := 136
abbrev tree_Arena_free_1.id : FuncId := 137
abbrev gram_isTerm.id : FuncId := 138
abbrev gram_names_find.id : FuncId := 139
abbrev gram_names_size.id : FuncId := 140
abbrev gram_names_intern.id : FuncId := 141
abbrev gram_isName.id : FuncId := 142
abbrev gram_Builder_isNonHandle.id : FuncId := 143
abbrev gram_Builder_Rule_1.id : FuncId := 144
abbrev gram_Builder_isTermHandle.id : FuncId := 145
abbrev gram_unlike.id : FuncId := 146
abbrev slices_ContainsFunc_string_string.id : FuncId := 147
abbrev gram_symbols_1.id : FuncId := 148
abbrev slices_Contains_int_int.id : FuncId := 149
abbrev cmp_Less_int.id : FuncId := 150
abbrev ref02_IsTerm.id : FuncId := 151
abbrev ref02_IsName.id : FuncId := 152
abbrev internal_stringslite_HasPrefix.id : FuncId := 153
abbrev tree_walk_sound_1.id : FuncId := 154
abbrev internal_abi_NoEscape.id : FuncId := 155
abbrev strings_IndexFunc.id : FuncId := 156
abbrev gram_isTerm_1.id : FuncId := 157
abbrev strings_Clone.id : FuncId := 158
abbrev slices_IndexFunc_string_string.id : FuncId := 159
abbrev slices_Index_int_int.id : FuncId := 160
abbrev cmp_isNaN_int.id : FuncId := 161
abbrev strings_indexFunc.id : FuncId := 162
abbrev internal_stringslite_Clone.id : FuncId := 163
abbrev runtime_boundsError_Error.id : FuncId := 164
abbrev runtime_boundsError_RuntimeError.id : FuncId := 165
abbrev runtime_errorString_Error.id : FuncId := 166
abbrev runtime_errorString_RuntimeError.id : FuncId := 167
abbrev runtime_plainError_Error.id : FuncId := 168
abbrev runtime_plainError_RuntimeError.id : FuncId := 169
abbrev runtime_errorAddressString_Error.id : FuncId := 170
abbrev runtime_errorAddressString_RuntimeError.id : FuncId := 171
abbrev runtime_TypeAssertionError_Error.id : FuncId := 172
abbrev runtime_TypeAssertionError_RuntimeError.id : FuncId := 173
abbrev runtime_PanicNilError_Error.id : FuncId := 174
abbrev runtime_PanicNilError_RuntimeError.id : FuncId := 175
abbrev internal_abi_Type_Align.id : FuncId := 176
abbrev internal_runtime_maps_unhashableTypeError_Error.id : FuncId := 177
abbrev internal_runtime_maps_unhashableTypeError_RuntimeError.id : FuncId := 178
abbrev api_Errno_Error.id : FuncId := 179
abbrev strings_Builder_Reset.id : FuncId := 180
abbrev internal_abi_Kind_String.id : FuncId := 181
end Go.Proofs.Ytkacbjhiobnbfaa

/- Shallow programs, written by a program of ours (gen.py) off the translation; each is tied to the code by the kernel. -/
set_option linter.unusedVariables false
set_option maxRecDepth 100000
namespace Go.Proofs.Ytkacbjhiobnbfaa
open Go.Px

/-! ### presage/gram.New -/
namespace gram_New
noncomputable def code : Code := bodyOf Try.f101

def b1 (R : EP) (w : World) (_r : Tok R := tok R) : Prop :=
  RUN Try.prog (pan R) (Instr.build 174 #[]) w fun v1 w2 =>
  RUN Try.prog (pan R) (Instr.box 174 v1) w2 fun v3 w4 =>
  R (.returned v3) w4
abbrev q1 (R : EP) : XP := QX (fun ρ w => R (.returned (ρ 0)) w) (fun ρ w => R (.returned (ρ 0)) w) []
theorem b1_eq (R : EP) (ρ : Env) (w : World) : (b1 R w) = codeP Try.prog (pan R) code (q1 R) ρ w := by kernel_rfl
theorem b1_ok (R : EP) (ρ : Env) (w : World) (h : b1 R w) : codeP Try.prog (pan R) code (q1 R) ρ w := (b1_eq R ρ w).mp h
/-- What is owed for a call. -/
def run (R : EP) (w : World) : Prop := b1 R w
theorem calls (R : EP) (w : World) (h : run R w) : Calls Try.prog id #[] w R :=
  calls_of_t (f := id) (fn := Try.f101) (c := code) (by kernel_rfl) Try.func101 (by kernel_rfl) (by kernel_rfl) (args := []) (Nat.le_of_ble_eq_true rfl) rfl (b1_ok R (envOf []) w h)
theorem enters : Enters Try.prog id := fun args w => Try.call101 args w
theorem ct {w : World} {S : VP} (h : ∀ R : EP, (∀ v w, S v w → R (.returned v) w) → run R w) : Ct Try.prog id #[] w S :=
  Ct.intro enters fun R hR => calls R w (h R hR)
attribute [irreducible] b1 run
end gram_New

/-! ### (*presage/gram.Builder).Term -/
namespace gram_Builder_Term
noncomputable def code : Code := bodyOf Try.f102
noncomputable abbrev p1 : Code := dropC 1 code
def b3 (R : EP) (x0 x1 : Value) (w : World) (_r : Tok R := tok R) : Prop :=
  NILC x0 fun v1 =>
  RUN Try.prog (pan R) (Instr.fieldAt 174 v1 0) w fun v2 w3 =>
  CALL Try.prog (pan R) gram_names_find.id #[v2, x1] w3 fun v4 w5 =>
  RUN Try.prog (pan R) (bins .gtr 3 (.tmp 19) (.const (Go.Value.int Go.IntKind.i64 0)) v4 (Go.Value.int Go.IntKind.i64 0)) w5 fun v6 w7 =>
  SPL v6
  (R (.returned (.tuple #[v4, (Go.Value.int Go.IntKind.i64 0)])) w7)
  (NILC x0 fun v8 =>
  PUR Try.prog (Instr.fieldAt 174 v8 0) fun v9 =>
  NILC x0 fun v10 =>
  PUR Try.prog (Instr.fieldAt 174 v10 1) fun v11 =>
  PUR Try.prog (Instr.fieldAt 171 v11 0) fun v12 =>
  CALL Try.prog (pan R) gram_names_size.id #[v9] (World.drew w7) fun v13 w14 =>
  CALL Try.prog (pan R) gram_names_size.id #[v12] w14 fun v15 w16 =>
  PUR Try.prog (bins .add 3 (.tmp 25) (.tmp 30) v13 v15) fun v17 =>
  PUR Try.prog (bins .geq 3 (.tmp 31) (.const (Go.Value.int Go.IntKind.i64 64)) v17 (Go.Value.int Go.IntKind.i64 64)) fun v18 =>
  SPL v18
  (R (.returned (.tuple #[(Go.Value.int Go.IntKind.i64 0), (Go.Value.int Go.IntKind.i64 11)])) w16)
  (NILC x0 fun v19 =>
  RUN Try.prog (pan R) (Instr.fieldAt 174 v19 2) w16 fun v20 w21 =>
  RUN Try.prog (pan R) (Instr.loadAt 24 v20) w21 fun v22 w23 =>
  RUN Try.prog (pan R) (Instr.buildSlice 24 1 #[(0, (Go.Value.int Go.IntKind.i64 0))]) w23 fun v24 w25 =>
  RUN Try.prog (pan R) (Builtin.append_ #[24, 24] 24 #[v22, v24]) w25 fun v26 w27 =>
  NILC x0 fun v28 =>
  RUN Try.prog (pan R) (Instr.fieldAt 174 v28 2) w27 fun v29 w30 =>
  RUNU Try.prog (pan R) (Instr.storeAt 24 v29 v26) w30 fun w31 =>
  NILC x0 fun v32 =>
  RUN Try.prog (pan R) (Instr.fieldAt 174 v32 0) w31 fun v33 w34 =>
  CALL Try.prog (pan R) gram_names_intern.id #[v33, x1] w34 fun v35 w36 =>
  R (.returned (.tuple #[v35, (Go.Value.int Go.IntKind.i64 0)])) w36))
abbrev q1 (R : EP) : XP := QX (fun ρ w => R (.returned (.tuple #[(ρ 4), (ρ 5)])) w) (fun ρ w => R (.returned (.tuple #[(ρ 4), (ρ 5)])) w) []
theorem b3_eq (R : EP) (ρ : Env) (w : World) : (b3 R (ρ 0) (ρ 1) w) = codeP Try.prog (pan R) (sndC p1) (q1 R) ρ w := by kernel_rfl
theorem b3_ok (R : EP) (ρ : Env) (w : World) (h : b3 R (ρ 0) (ρ 1) w) : codeP Try.prog (pan R) (sndC p1) (q1 R) ρ w := (b3_eq R ρ w).mp h
noncomputable abbrev p2 : Code := dropC 1 (fstC p1)
def b5 (R : EP) (x0 x1 x13 : Value) (w : World) (_r : Tok R := tok R) : Prop :=
  SPL x13
  (R (.returned (.tuple #[(Go.Value.int Go.IntKind.i64 0), (Go.Value.int Go.IntKind.i64 1)])) w)
  (b3 R x0 x1 w)
abbrev q2 (R : EP) : XP := QX (fun ρ w => b3 R (ρ 0) (ρ 1) w) (fun ρ w => R (.returned (.tuple #[(ρ 4), (ρ 5)])) w) []
theorem b5_eq (R : EP) (ρ : Env) (w : World) : (b5 R (ρ 0) (ρ 1) (ρ 13) w) = codeP Try.prog (pan R) p2 (q2 R) ρ w := by kernel_rfl
theorem b5_ok (R : EP) (ρ : Env) (w : World) (h : b5 R (ρ 0) (ρ 1) (ρ 13) w) : codeP Try.prog (pan R) p2 (q2 R) ρ w := (b5_eq R ρ w).mp h
def b4 (R : EP) (x0 x1 : Value) (w : World) (_r : Tok R := tok R) : Prop :=
  RUN Try.prog (pan R) (bins .eql 141 (.tmp 7) (.const (Go.Value.pointer Option.none)) x0 (Go.Value.pointer Option.none)) w fun v1 w2 =>
  SPL v1
  (b5 R x0 x1 (Go.Value.bool Bool.true) w2)
  (CALL Try.prog (pan R) gram_isTerm.id #[x1] w2 fun v3 w4 =>
  RUN Try.prog (pan R) (Op.unary .not v3) w4 fun v5 w6 =>
  b5 R x0 x1 v5 w6)
abbrev q3 (R : EP) : XP := QX (fun ρ w => b5 R (ρ 0) (ρ 1) (ρ 13) w) (fun ρ w => R (.returned (.tuple #[(ρ 4), (ρ 5)])) w) []
theorem b4_eq (R : EP) (ρ : Env) (w : World) : (b4 R (ρ 0) (ρ 1) w) = codeP Try.prog (pan R) (preC 0 (fstC p1)) (q3 R) ρ w := by kernel_rfl
theorem b4_ok (R : EP) (ρ : Env) (w : World) (h : b4 R (ρ 0) (ρ 1) w) : codeP Try.prog (pan R) (fstC p1) (q2 R) ρ w := by
  have e : appC 0 (preC 0 (fstC p1)) (dropC 1 (fstC p1)) = (fstC p1) := by kernel_rfl
  rw [← e]
  exact appQ (fun ρ w => b5 R (ρ 0) (ρ 1) (ρ 13) w) 0 ((b4_eq R ρ w).mp h) (fun ρ w h => b5_ok R ρ w h)
theorem k2_ok (R : EP) (ρ : Env) (w : World) (h : b4 R (ρ 0) (ρ 1) w) : codeP Try.prog (pan R) p1 (q1 R) ρ w := by
  have e : Code.seq (fstC p1) (sndC p1) = p1 := by kernel_rfl
  rw [← e]
  exact seqQ (fun ρ w => b3 R (ρ 0) (ρ 1) w) (b4_ok R ρ w h) (fun ρ w h => b3_ok R ρ w h)
def b1 (R : EP) (x0 x1 : Value) (w : World) (_r : Tok R := tok R) : Prop :=
  b4 R x0 x1 w
abbrev q4 (R : EP) : XP := QX (fun ρ w => b4 R (ρ 0) (ρ 1) w) (fun ρ w => R (.returned (.tuple #[(ρ 4), (ρ 5)])) w) []
theorem b1_eq (R : EP) (ρ : Env) (w : World) : (b1 R (ρ 0) (ρ 1) w) = codeP Try.prog (pan R) (preC 0 code) (q4 R) ρ w := by kernel_rfl
theorem b1_ok (R : EP) (ρ : Env) (w : World) (h : b1 R (ρ 0) (ρ 1) w) : codeP Try.prog (pan R) code (q1 R) ρ w := by
  have e : appC 0 (preC 0 code) (dropC 1 code) = code := by kernel_rfl
  rw [← e]
  exact appQ (fun ρ w => b4 R (ρ 0) (ρ 1) w) 0 ((b1_eq R ρ w).mp h) (fun ρ w h => k2_ok R ρ w h)
/-- What is owed for a call. -/
def run (R : EP) (a0 a1 : Value) (w : World) : Prop := b1 R a0 a1 w
theorem calls (R : EP) (a0 a1 : Value) (w : World) (h : run R a0 a1 w) : Calls Try.prog id #[a0, a1] w R :=
  calls_of_tt (f := id) (fn := Try.f102) (c := code) (by kernel_rfl) Try.func102 (by kernel_rfl) (by kernel_rfl) (args := [a0, a1]) (Nat.le_of_ble_eq_true rfl) rfl (b1_ok R (envOf [a0, a1]) w h)
theorem enters : Enters Try.prog id := fun args w => Try.call102 args w
theorem ct {a0 a1 : Value} {w : World} {S : VP} (h : ∀ R : EP, (∀ v w, S v w → R (.returned v) w) → run R a0 a1 w) : Ct Try.prog id #[a0, a1] w S :=
  Ct.intro enters fun R hR => calls R a0 a1 w (h R hR)
attribute [irreducible] b3 b5 b4 b1 run
end gram_Builder_Term

/-! ### (*presage/gram.Builder).Non -/
namespace gram_Builder_Non
noncomputable def code : Code := bodyOf Try.f103
noncomputable abbrev p1 : Code := dropC 1 code
def b3 (R : EP) (x0 x1 : Value) (w : World) (_r : Tok R := tok R) : Prop :=
  NILC x0 fun v1 =>
  RUN Try.prog (pan R) (Instr.fieldAt 174 v1 1) w fun v2 w3 =>
  RUN Try.prog (pan R) (Instr.fieldAt 171 v2 0) w3 fun v4 w5 =>
  CALL Try.prog (pan R) gram_names_find.id #[v4, x1] w5 fun v6 w7 =>
  RUN Try.prog (pan R) (bins .gtr 3 (.tmp 20) (.const (Go.Value.int Go.IntKind.i64 0)) v6 (Go.Value.int Go.IntKind.i64 0)) w7 fun v8 w9 =>
  SPL v8
  (RUN Try.prog (pan R) (Op.unary .neg v6) w9 fun v10 w11 =>
  R (.returned (.tuple #[v10, (Go.Value.int Go.IntKind.i64 0)])) w11)
  (NILC x0 fun v12 =>
  PUR Try.prog (Instr.fieldAt 174 v12 0) fun v13 =>
  NILC x0 fun v14 =>
  PUR Try.prog (Instr.fieldAt 174 v14 1) fun v15 =>
  PUR Try.prog (Instr.fieldAt 171 v15 0) fun v16 =>
  CALL Try.prog (pan R) gram_names_size.id #[v13] (World.drew w9) fun v17 w18 =>
  CALL Try.prog (pan R) gram_names_size.id #[v16] w18 fun v19 w20 =>
  PUR Try.prog (bins .add 3 (.tmp 27) (.tmp 32) v17 v19) fun v21 =>
  PUR Try.prog (bins .geq 3 (.tmp 33) (.const (Go.Value.int Go.IntKind.i64 64)) v21 (Go.Value.int Go.IntKind.i64 64)) fun v22 =>
  SPL v22
  (R (.returned (.tuple #[(Go.Value.int Go.IntKind.i64 0), (Go.Value.int Go.IntKind.i64 11)])) w20)
  (NILC x0 fun v23 =>
  RUN Try.prog (pan R) (Instr.fieldAt 174 v23 1) w20 fun v24 w25 =>
  RUN Try.prog (pan R) (Instr.fieldAt 171 v24 0) w25 fun v26 w27 =>
  CALL Try.prog (pan R) gram_names_intern.id #[v26, x1] w27 fun v28 w29 =>
  RUN Try.prog (pan R) (Op.unary .neg v28) w29 fun v30 w31 =>
  R (.returned (.tuple #[v30, (Go.Value.int Go.IntKind.i64 0)])) w31))
abbrev q1 (R : EP) : XP := QX (fun ρ w => R (.returned (.tuple #[(ρ 4), (ρ 5)])) w) (fun ρ w => R (.returned (.tuple #[(ρ 4), (ρ 5)])) w) []
theorem b3_eq (R : EP) (ρ : Env) (w : World) : (b3 R (ρ 0) (ρ 1) w) = codeP Try.prog (pan R) (sndC p1) (q1 R) ρ w := by kernel_rfl
theorem b3_ok (R : EP) (ρ : Env) (w : World) (h : b3 R (ρ 0) (ρ 1) w) : codeP Try.prog (pan R) (sndC p1) (q1 R) ρ w := (b3_eq R ρ w).mp h
noncomputable abbrev p2 : Code := dropC 1 (fstC p1)
def b5 (R : EP) (x0 x1 x13 : Value) (w : World) (_r : Tok R := tok R) : Prop :=
  SPL x13
  (R (.returned (.tuple #[(Go.Value.int Go.IntKind.i64 0), (Go.Value.int Go.IntKind.i64 1)])) w)
  (b3 R x0 x1 w)
abbrev q2 (R : EP) : XP := QX (fun ρ w => b3 R (ρ 0) (ρ 1) w) (fun ρ w => R (.returned (.tuple #[(ρ 4), (ρ 5)])) w) []
theorem b5_eq (R : EP) (ρ : Env) (w : World) : (b5 R (ρ 0) (ρ 1) (ρ 13) w) = codeP Try.prog (pan R) p2 (q2 R) ρ w := by kernel_rfl
theorem b5_ok (R : EP) (ρ : Env) (w : World) (h : b5 R (ρ 0) (ρ 1) (ρ 13) w) : codeP Try.prog (pan R) p2 (q2 R) ρ w := (b5_eq R ρ w).mp h
def b4 (R : EP) (x0 x1 : Value) (w : World) (_r : Tok R := tok R) : Prop :=
  RUN Try.prog (pan R) (bins .eql 141 (.tmp 7) (.const (Go.Value.pointer Option.none)) x0 (Go.Value.pointer Option.none)) w fun v1 w2 =>
  SPL v1
  (b5 R x0 x1 (Go.Value.bool Bool.true) w2)
  (CALL Try.prog (pan R) gram_isName.id #[x1] w2 fun v3 w4 =>
  RUN Try.prog (pan R) (Op.unary .not v3) w4 fun v5 w6 =>
  b5 R x0 x1 v5 w6)
abbrev q3 (R : EP) : XP := QX (fun ρ w => b5 R (ρ 0) (ρ 1) (ρ 13) w) (fun ρ w => R (.returned (.tuple #[(ρ 4), (ρ 5)])) w) []
theorem b4_eq (R : EP) (ρ : Env) (w : World) : (b4 R (ρ 0) (ρ 1) w) = codeP Try.prog (pan R) (preC 0 (fstC p1)) (q3 R) ρ w := by kernel_rfl
theorem b4_ok (R : EP) (ρ : Env) (w : World) (h : b4 R (ρ 0) (ρ 1) w) : codeP Try.prog (pan R) (fstC p1) (q2 R) ρ w := by
  have e : appC 0 (preC 0 (fstC p1)) (dropC 1 (fstC p1)) = (fstC p1) := by kernel_rfl
  rw [← e]
  exact appQ (fun ρ w => b5 R (ρ 0) (ρ 1) (ρ 13) w) 0 ((b4_eq R ρ w).mp h) (fun ρ w h => b5_ok R ρ w h)
theorem k2_ok (R : EP) (ρ : Env) (w : World) (h : b4 R (ρ 0) (ρ 1) w) : codeP Try.prog (pan R) p1 (q1 R) ρ w := by
  have e : Code.seq (fstC p1) (sndC p1) = p1 := by kernel_rfl
  rw [← e]
  exact seqQ (fun ρ w => b3 R (ρ 0) (ρ 1) w) (b4_ok R ρ w h) (fun ρ w h => b3_ok R ρ w h)
def b1 (R : EP) (x0 x1 : Value) (w : World) (_r : Tok R := tok R) : Prop :=
  b4 R x0 x1 w
abbrev q4 (R : EP) : XP := QX (fun ρ w => b4 R (ρ 0) (ρ 1) w) (fun ρ w => R (.returned (.tuple #[(ρ 4), (ρ 5)])) w) []
theorem b1_eq (R : EP) (ρ : Env) (w : World) : (b1 R (ρ 0) (ρ 1) w) = codeP Try.prog (pan R) (preC 0 code) (q4 R) ρ w := by kernel_rfl
theorem b1_ok (R : EP) (ρ : Env) (w : World) (h : b1 R (ρ 0) (ρ 1) w) : codeP Try.prog (pan R) code (q1 R) ρ w := by
  have e : appC 0 (preC 0 code) (dropC 1 code) = code := by kernel_rfl
  rw [← e]
  exact appQ (fun ρ w => b4 R (ρ 0) (ρ 1) w) 0 ((b1_eq R ρ w).mp h) (fun ρ w h => k2_ok R ρ w h)
/-- What is owed for a call. -/
def run (R : EP) (a0 a1 : Value) (w : World) : Prop := b1 R a0 a1 w
theorem calls (R : EP) (a0 a1 : Value) (w : World) (h : run R a0 a1 w) : Calls Try.prog id #[a0, a1] w R :=
  calls_of_tt (f := id) (fn := Try.f103) (c := code) (by kernel_rfl) Try.func103 (by kernel_rfl) (by kernel_rfl) (args := [a0, a1]) (Nat.le_of_ble_eq_true rfl) rfl (b1_ok R (envOf [a0, a1]) w h)
theorem enters : Enters Try.prog id := fun args w => Try.call103 args w
theorem ct {a0 a1 : Value} {w : World} {S : VP} (h : ∀ R : EP, (∀ v w, S v w → R (.returned v) w) → run R a0 a1 w) : Ct Try.prog id #[a0, a1] w S :=
  Ct.intro enters fun R hR => calls R a0 a1 w (h R hR)
attribute [irreducible] b3 b5 b4 b1 run
end gram_Builder_Non

/-! ### (*presage/gram.Builder).Rule -/
namespace gram_Builder_Rule
noncomputable def code : Code := bodyOf Try.f104
noncomputable abbrev p1 : Code := dropC 1 code
noncomputable abbrev p2 : Code := dropC 2 (sndC p1)

def b5 (R : EP) (x3 x8 : Value) (w : World) (_r : Tok R := tok R) : Prop :=
  LD Try.prog (Instr.loadAt 141 x3) (World.drew w) fun v1 =>
  LD Try.prog (Instr.loadAt 141 x3) (World.drew w) fun v2 =>
  NILC v2 fun v3 =>
  PUR Try.prog (Instr.fieldAt 174 v3 4) fun v4 =>
  LD Try.prog (Instr.loadAt 172 v4) (World.drew w) fun v5 =>
  LD Try.prog (Instr.loadAt 178 x8) (World.drew w) fun v6 =>
  RUN Try.prog (pan R) (Instr.buildSlice 172 1 #[(0, v6)]) (World.drew w) fun v7 w8 =>
  Sem.run Try.prog (Instr.loadAt 172 v4) w8 = .ok v5 w8 ∧ (Sem.run Try.prog (Instr.loadAt 141 x3) w8 = .ok v2 w8 ∧ (Sem.run Try.prog (Instr.loadAt 141 x3) w8 = .ok v1 w8 ∧ (RUN Try.prog (pan R) (Builtin.append_ #[172, 172] 172 #[v5, v7]) w8 fun v9 w10 =>
  Sem.run Try.prog (Instr.loadAt 141 x3) w10 = .ok v1 w10 ∧ (NILC v1 fun v11 =>
  PUR Try.prog (Instr.fieldAt 174 v11 4) fun v12 =>
  RUNU Try.prog (pan R) (Instr.storeAt 172 v12 v9) w10 fun w13 =>
  RUN Try.prog (pan R) (Instr.loadAt 141 x3) w13 fun v14 w15 =>
  NILC v14 fun v16 =>
  RUN Try.prog (pan R) (Instr.fieldAt 174 v16 4) w15 fun v17 w18 =>
  RUN Try.prog (pan R) (Instr.loadAt 172 v17) w18 fun v19 w20 =>
  RUN Try.prog (pan R) (Builtin.len_ #[172] 3 #[v19]) w20 fun v21 w22 =>
  RUN Try.prog (pan R) (bins .sub 3 (.tmp 66) (.const (Go.Value.int Go.IntKind.i64 1)) v21 (Go.Value.int Go.IntKind.i64 1)) w22 fun v23 w24 =>
  R (.returned (.tuple #[v23, (Go.Value.int Go.IntKind.i64 0)])) w24))))
abbrev q1 (R : EP) : XP := QX (fun ρ w => R (.returned (.tuple #[(ρ 6), (ρ 7)])) w) (fun ρ w => R (.returned (.tuple #[(ρ 6), (ρ 7)])) w) []
theorem b5_eq (R : EP) (ρ : Env) (w : World) : (b5 R (ρ 3) (ρ 8) w) = codeP Try.prog (pan R) (sndC p2) (q1 R) ρ w := by kernel_rfl
theorem b5_ok (R : EP) (ρ : Env) (w : World) (h : b5 R (ρ 3) (ρ 8) w) : codeP Try.prog (pan R) (sndC p2) (q1 R) ρ w := (b5_eq R ρ w).mp h
noncomputable abbrev p3 : Code := dropC 1 (fstC p2)
noncomputable abbrev p4 : Code := loopC (blkC p3)
noncomputable abbrev p5 : Code := dropC 3 p4

def b10 (R : EP) (C8 : VP) (x36 : Value) (w : World) (_r : Tok R := tok R) (_C8 : Tok C8 := tok C8) : Prop :=
  RUN Try.prog (pan R) (bins .add 3 (.tmp 36) (.const (Go.Value.int Go.IntKind.i64 1)) x36 (Go.Value.int Go.IntKind.i64 1)) w fun v1 w2 =>
  C8 v1 w2
abbrev q2 (R : EP) (C8 : VP) : XP := QX (fun ρ w => C8 (ρ 36) w) (fun ρ w => R (.returned (.tuple #[(ρ 6), (ρ 7)])) w) [(0, (fun ρ w => b5 R (ρ 3) (ρ 8) w))]
theorem b10_eq (R : EP) (C8 : VP) (ρ : Env) (w : World) : (b10 R C8 (ρ 36) w) = codeP Try.prog (pan R) p5 (q2 R C8) ρ w := by kernel_rfl
theorem b10_ok (R : EP) (C8 : VP) (ρ : Env) (w : World) (h : b10 R C8 (ρ 36) w) : codeP Try.prog (pan R) p5 (q2 R C8) ρ w := (b10_eq R C8 ρ w).mp h

def b9 (R : EP) (C8 : VP) (x3 x8 x34 x35 x36 : Value) (w : World) (_r : Tok R := tok R) (_C8 : Tok C8 := tok C8) : Prop :=
  RUN Try.prog (pan R) (bins .lss 3 (.tmp 36) (.tmp 35) x36 x35) w fun v1 w2 =>
  SPL v1
  (RUN Try.prog (pan R) (Instr.indexAt 24 x34 x36) w2 fun v3 w4 =>
  RUN Try.prog (pan R) (Instr.loadAt 3 v3) w4 fun v5 w6 =>
  RUN Try.prog (pan R) (bins .gtr 3 (.tmp 40) (.const (Go.Value.int Go.IntKind.i64 0)) v5 (Go.Value.int Go.IntKind.i64 0)) w6 fun v7 w8 =>
  SPL v7
  (RUN Try.prog (pan R) (Instr.loadAt 141 x3) w8 fun v9 w10 =>
  NILC v9 fun v11 =>
  RUN Try.prog (pan R) (Instr.fieldAt 174 v11 2) w10 fun v12 w13 =>
  RUN Try.prog (pan R) (Instr.loadAt 24 v12) w13 fun v14 w15 =>
  RUN Try.prog (pan R) (bins .sub 3 (.tmp 46) (.const (Go.Value.int Go.IntKind.i64 1)) v5 (Go.Value.int Go.IntKind.i64 1)) w15 fun v16 w17 =>
  RUN Try.prog (pan R) (Instr.indexAt 24 v14 v16) w17 fun v18 w19 =>
  RUN Try.prog (pan R) (Instr.loadAt 3 v18) w19 fun v20 w21 =>
  RUN Try.prog (pan R) (Instr.fieldAt 178 x8 2) w21 fun v22 w23 =>
  RUNU Try.prog (pan R) (Instr.storeAt 3 v22 v20) w23 fun w24 =>
  b10 R C8 x36 w24)
  (b10 R C8 x36 w8))
  (b5 R x3 x8 w2)
abbrev q3 (R : EP) (C8 : VP) : XP := QX (fun ρ w => b10 R C8 (ρ 36) w) (fun ρ w => R (.returned (.tuple #[(ρ 6), (ρ 7)])) w) [(0, (fun ρ w => b5 R (ρ 3) (ρ 8) w))]
theorem b9_eq (R : EP) (C8 : VP) (ρ : Env) (w : World) : (b9 R C8 (ρ 3) (ρ 8) (ρ 34) (ρ 35) (ρ 36) w) = codeP Try.prog (pan R) (preC 2 p4) (q3 R C8) ρ w := by kernel_rfl
theorem b9_ok (R : EP) (C8 : VP) (ρ : Env) (w : World) (h : b9 R C8 (ρ 3) (ρ 8) (ρ 34) (ρ 35) (ρ 36) w) : codeP Try.prog (pan R) p4 (q2 R C8) ρ w := by
  have e : appC 2 (preC 2 p4) (dropC 3 p4) = p4 := by kernel_rfl
  rw [← e]
  exact appQ (fun ρ w => b10 R C8 (ρ 36) w) 2 ((b9_eq R C8 ρ w).mp h) (fun ρ w h => b10_ok R C8 ρ w h)

def l8 (R : EP) (x3 x8 x34 x35 x36 : Value) (w : World) (_r : Tok R := tok R) : Prop :=
  ∃ (J : VP) (μ : Value → World → Nat), J x36 w ∧ ∀ y36 w0, J y36 w0 → b9 R (fun z36 w1 => J z36 w1 ∧ μ z36 w1 < μ y36 w0) x3 x8 x34 x35 y36 w0
abbrev q4 (R : EP) : XP := QX (fun ρ w => b5 R (ρ 3) (ρ 8) w) (fun ρ w => R (.returned (.tuple #[(ρ 6), (ρ 7)])) w) [(0, (fun ρ w => b5 R (ρ 3) (ρ 8) w))]
theorem l8_ok (R : EP) (ρ : Env) (w : World) (h : l8 R (ρ 3) (ρ 8) (ρ 34) (ρ 35) (ρ 36) w) : codeP Try.prog (pan R) (blkC p3) (q4 R) ρ w := by
  unfold l8 at h
  obtain ⟨J, μ, h0, hr⟩ := h
  have e : Code.loop (loopC (blkC p3)) = (blkC p3) := by kernel_rfl
  rw [← e]
  refine loopQ (fun ρ' w' => J (ρ' 36) w') (fun ρ' w' => μ (ρ' 36) w') h0 fun ρ' w' hA hI => ?_
  have e3 : ρ' 3 = ρ 3 := Agree.at hA 3 (by kernel_rfl)
  have e8 : ρ' 8 = ρ 8 := Agree.at hA 8 (by kernel_rfl)
  have e34 : ρ' 34 = ρ 34 := Agree.at hA 34 (by kernel_rfl)
  have e35 : ρ' 35 = ρ 35 := Agree.at hA 35 (by kernel_rfl)
  have h1 := hr (ρ' 36) w' hI
  rw [← e3, ← e8, ← e34, ← e35] at h1
  exact b9_ok R (fun z36 w1 => J z36 w1 ∧ μ z36 w1 < μ (ρ' 36) w') ρ' w' h1
theorem l8_intro (R : EP) (x3 x8 x34 x35 x36 : Value) (w : World) (J : VP) (μ : Value → World → Nat) (h0 : J x36 w)
    (hr : ∀ y36 w0, J y36 w0 → ∀ C8 : VP, (∀ z36 w1, J z36 w1 → μ z36 w1 < μ y36 w0 → C8 z36 w1) → b9 R C8 x3 x8 x34 x35 y36 w0) : l8 R x3 x8 x34 x35 x36 w := by
  unfold l8
  exact ⟨J, μ, h0, fun y36 w0 hJ => hr y36 w0 hJ _ (fun z36 w1 h1 h2 => ⟨h1, h2⟩)⟩
abbrev q5 (R : EP) : XP := QX (fun ρ w => b5 R (ρ 3) (ρ 8) w) (fun ρ w => R (.returned (.tuple #[(ρ 6), (ρ 7)])) w) []
theorem k7_ok (R : EP) (ρ : Env) (w : World) (h : l8 R (ρ 3) (ρ 8) (ρ 34) (ρ 35) (ρ 36) w) : codeP Try.prog (pan R) p3 (q5 R) ρ w := by
  have e : Code.block 0 (blkC p3) = p3 := by kernel_rfl
  rw [← e]
  exact blockQ (l8_ok R ρ w h)

def b6 (R : EP) (x2 x3 x8 : Value) (w : World) (_r : Tok R := tok R) : Prop :=
  RUN Try.prog (pan R) (Builtin.len_ #[24] 3 #[x2]) w fun v1 w2 =>
  l8 R x3 x8 x2 v1 (Go.Value.int Go.IntKind.i64 0) w2
abbrev q6 (R : EP) : XP := QX (fun ρ w => l8 R (ρ 3) (ρ 8) (ρ 34) (ρ 35) (ρ 36) w) (fun ρ w => R (.returned (.tuple #[(ρ 6), (ρ 7)])) w) []
theorem b6_eq (R : EP) (ρ : Env) (w : World) : (b6 R (ρ 2) (ρ 3) (ρ 8) w) = codeP Try.prog (pan R) (preC 0 (fstC p2)) (q6 R) ρ w := by kernel_rfl
theorem b6_ok (R : EP) (ρ : Env) (w : World) (h : b6 R (ρ 2) (ρ 3) (ρ 8) w) : codeP Try.prog (pan R) (fstC p2) (q5 R) ρ w := by
  have e : appC 0 (preC 0 (fstC p2)) (dropC 1 (fstC p2)) = (fstC p2) := by kernel_rfl
  rw [← e]
  exact appQ (fun ρ w => l8 R (ρ 3) (ρ 8) (ρ 34) (ρ 35) (ρ 36) w) 0 ((b6_eq R ρ w).mp h) (fun ρ w h => k7_ok R ρ w h)
theorem k4_ok (R : EP) (ρ : Env) (w : World) (h : b6 R (ρ 2) (ρ 3) (ρ 8) w) : codeP Try.prog (pan R) p2 (q1 R) ρ w := by
  have e : Code.seq (fstC p2) (sndC p2) = p2 := by kernel_rfl
  rw [← e]
  exact seqQ (fun ρ w => b5 R (ρ 3) (ρ 8) w) (b6_ok R ρ w h) (fun ρ w h => b5_ok R ρ w h)

def b3 (R : EP) (x1 x2 x3 : Value) (w : World) (_r : Tok R := tok R) : Prop :=
  RUN Try.prog (pan R) (Instr.loadAt 141 x3) w fun v1 w2 =>
  NILC v1 fun v3 =>
  RUN Try.prog (pan R) (Instr.fieldAt 174 v3 4) w2 fun v4 w5 =>
  RUN Try.prog (pan R) (Instr.loadAt 172 v4) w5 fun v6 w7 =>
  RUN Try.prog (pan R) (Builtin.len_ #[172] 3 #[v6]) w7 fun v8 w9 =>
  RUN Try.prog (pan R) (bins .geq 3 (.tmp 28) (.const (Go.Value.int Go.IntKind.i64 96)) v8 (Go.Value.int Go.IntKind.i64 96)) w9 fun v10 w11 =>
  SPL v10
  (R (.returned (.tuple #[(Go.Value.int Go.IntKind.i64 0), (Go.Value.int Go.IntKind.i64 11)])) w11)
  (CALL Try.prog (pan R) slices_Clone_int_int.id #[x2] w11 fun v12 w13 =>
  RUN Try.prog (pan R) (Instr.build 178 #[(0, x1), (1, v12)]) w13 fun v14 w15 =>
  RUN Try.prog (pan R) (Instr.alloc 178 true (.tuple #[])) w15 fun v16 w17 =>
  RUNU Try.prog (pan R) (Instr.storeAt 178 v16 v14) w17 fun w18 =>
  b6 R x2 x3 v16 w18)
abbrev q7 (R : EP) : XP := QX (fun ρ w => b6 R (ρ 2) (ρ 3) (ρ 8) w) (fun ρ w => R (.returned (.tuple #[(ρ 6), (ρ 7)])) w) []
theorem b3_eq (R : EP) (ρ : Env) (w : World) : (b3 R (ρ 1) (ρ 2) (ρ 3) w) = codeP Try.prog (pan R) (preC 1 (sndC p1)) (q7 R) ρ w := by kernel_rfl
theorem b3_ok (R : EP) (ρ : Env) (w : World) (h : b3 R (ρ 1) (ρ 2) (ρ 3) w) : codeP Try.prog (pan R) (sndC p1) (q1 R) ρ w := by
  have e : appC 1 (preC 1 (sndC p1)) (dropC 2 (sndC p1)) = (sndC p1) := by kernel_rfl
  rw [← e]
  exact appQ (fun ρ w => b6 R (ρ 2) (ρ 3) (ρ 8) w) 1 ((b3_eq R ρ w).mp h) (fun ρ w h => k4_ok R ρ w h)
noncomputable abbrev p6 : Code := dropC 1 (fstC p1)

def b12 (R : EP) (x1 x2 x3 x23 : Value) (w : World) (_r : Tok R := tok R) : Prop :=
  SPL x23
  (R (.returned (.tuple #[(Go.Value.int Go.IntKind.i64 0), (Go.Value.int Go.IntKind.i64 1)])) w)
  (b3 R x1 x2 x3 w)
abbrev q8 (R : EP) : XP := QX (fun ρ w => b3 R (ρ 1) (ρ 2) (ρ 3) w) (fun ρ w => R (.returned (.tuple #[(ρ 6), (ρ 7)])) w) []
theorem b12_eq (R : EP) (ρ : Env) (w : World) : (b12 R (ρ 1) (ρ 2) (ρ 3) (ρ 23) w) = codeP Try.prog (pan R) p6 (q8 R) ρ w := by kernel_rfl
theorem b12_ok (R : EP) (ρ : Env) (w : World) (h : b12 R (ρ 1) (ρ 2) (ρ 3) (ρ 23) w) : codeP Try.prog (pan R) p6 (q8 R) ρ w := (b12_eq R ρ w).mp h

def b11 (R : EP) (x1 x2 x3 : Value) (w : World) (_r : Tok R := tok R) : Prop :=
  RUN Try.prog (pan R) (Instr.loadAt 141 x3) w fun v1 w2 =>
  RUN Try.prog (pan R) (bins .eql 141 (.tmp 11) (.const (Go.Value.pointer Option.none)) v1 (Go.Value.pointer Option.none)) w2 fun v3 w4 =>
  SPL v3
  (b12 R x1 x2 x3 (Go.Value.bool Bool.true) w4)
  (RUN Try.prog (pan R) (Instr.loadAt 141 x3) w4 fun v5 w6 =>
  CALL Try.prog (pan R) gram_Builder_isNonHandle.id #[v5, x1] w6 fun v7 w8 =>
  RUN Try.prog (pan R) (Op.unary .not v7) w8 fun v9 w10 =>
  SPL v9
  (b12 R x1 x2 x3 (Go.Value.bool Bool.true) w10)
  (RUN Try.prog (pan R) (Instr.makeFunc (.func gram_Builder_Rule_1.id) #[] #[x3]) w10 fun v11 w12 =>
  CALL Try.prog (pan R) slices_ContainsFunc_int_int.id #[x2, v11] w12 fun v13 w14 =>
  b12 R x1 x2 x3 v13 w14))
abbrev q9 (R : EP) : XP := QX (fun ρ w => b12 R (ρ 1) (ρ 2) (ρ 3) (ρ 23) w) (fun ρ w => R (.returned (.tuple #[(ρ 6), (ρ 7)])) w) []
theorem b11_eq (R : EP) (ρ : Env) (w : World) : (b11 R (ρ 1) (ρ 2) (ρ 3) w) = codeP Try.prog (pan R) (preC 0 (fstC p1)) (q9 R) ρ w := by kernel_rfl
theorem b11_ok (R : EP) (ρ : Env) (w : World) (h : b11 R (ρ 1) (ρ 2) (ρ 3) w) : codeP Try.prog (pan R) (fstC p1) (q8 R) ρ w := by
  have e : appC 0 (preC 0 (fstC p1)) (dropC 1 (fstC p1)) = (fstC p1) := by kernel_rfl
  rw [← e]
  exact appQ (fun ρ w => b12 R (ρ 1) (ρ 2) (ρ 3) (ρ 23) w) 0 ((b11_eq R ρ w).mp h) (fun ρ w h => b12_ok R ρ w h)
theorem k2_ok (R : EP) (ρ : Env) (w : World) (h : b11 R (ρ 1) (ρ 2) (ρ 3) w) : codeP Try.prog (pan R) p1 (q1 R) ρ w := by
  have e : Code.seq (fstC p1) (sndC p1) = p1 := by kernel_rfl
  rw [← e]
  exact seqQ (fun ρ w => b3 R (ρ 1) (ρ 2) (ρ 3) w) (b11_ok R ρ w h) (fun ρ w h => b3_ok R ρ w h)

def b1 (R : EP) (x0 x1 x2 : Value) (w : World) (_r : Tok R := tok R) : Prop :=
  RUN Try.prog (pan R) (Instr.box 141 x0) w fun v1 w2 =>
  b11 R x1 x2 v1 w2
abbrev q10 (R : EP) : XP := QX (fun ρ w => b11 R (ρ 1) (ρ 2) (ρ 3) w) (fun ρ w => R (.returned (.tuple #[(ρ 6), (ρ 7)])) w) []
theorem b1_eq (R : EP) (ρ : Env) (w : World) : (b1 R (ρ 0) (ρ 1) (ρ 2) w) = codeP Try.prog (pan R) (preC 0 code) (q10 R) ρ w := by kernel_rfl
theorem b1_ok (R : EP) (ρ : Env) (w : World) (h : b1 R (ρ 0) (ρ 1) (ρ 2) w) : codeP Try.prog (pan R) code (q1 R) ρ w := by
  have e : appC 0 (preC 0 code) (dropC 1 code) = code := by kernel_rfl
  rw [← e]
  exact appQ (fun ρ w => b11 R (ρ 1) (ρ 2) (ρ 3) w) 0 ((b1_eq R ρ w).mp h) (fun ρ w h => k2_ok R ρ w h)
/-- What is owed for a call. -/
def run (R : EP) (a0 a1 a2 : Value) (w : World) : Prop := b1 R a0 a1 a2 w
theorem calls (R : EP) (a0 a1 a2 : Value) (w : World) (h : run R a0 a1 a2 w) : Calls Try.prog id #[a0, a1, a2] w R :=
  calls_of_tt (f := id) (fn := Try.f104) (c := code) (by kernel_rfl) Try.func104 (by kernel_rfl) (by kernel_rfl) (args := [a0, a1, a2]) (Nat.le_of_ble_eq_true rfl) rfl (b1_ok R (envOf [a0, a1, a2]) w h)
theorem enters : Enters Try.prog id := fun args w => Try.call104 args w
theorem ct {a0 a1 a2 : Value} {w : World} {S : VP} (h : ∀ R : EP, (∀ v w, S v w → R (.returned v) w) → run R a0 a1 a2 w) : Ct Try.prog id #[a0, a1, a2] w S :=
  Ct.intro enters fun R hR => calls R a0 a1 a2 w (h R hR)
attribute [irreducible] b5 b10 b9 l8 b6 b3 b12 b11 b1 run
end gram_Builder_Rule

/-! ### presage/gram.isTerm -/
namespace gram_isTerm
noncomputable def code : Code := bodyOf Try.f138
def b1 (R : EP) (x0 : Value) (w : World) (_r : Tok R := tok R) : Prop :=
  RUN Try.prog (pan R) (bins .neq 9 (.tmp 3) (.const (Go.Value.string { data := #[] })) x0 (Go.Value.string { data := #[] })) w fun v1 w2 =>
  SPL v1
  (RUN Try.prog (pan R) (Builtin.len_ #[9] 3 #[x0]) w2 fun v3 w4 =>
  RUN Try.prog (pan R) (bins .leq 3 (.tmp 7) (.const (Go.Value.int Go.IntKind.i64 16)) v3 (Go.Value.int Go.IntKind.i64 16)) w4 fun v5 w6 =>
  SPL v5
  (CALL Try.prog (pan R) strings_IndexFunc.id #[x0, (Go.Value.func (.func gram_isTerm_1.id) #[] #[])] w6 fun v7 w8 =>
  RUN Try.prog (pan R) (bins .lss 3 (.tmp 12) (.const (Go.Value.int Go.IntKind.i64 0)) v7 (Go.Value.int Go.IntKind.i64 0)) w8 fun v9 w10 =>
  R (.returned v9) w10)
  (R (.returned (Go.Value.bool Bool.false)) w6))
  (R (.returned (Go.Value.bool Bool.false)) w2)
abbrev q1 (R : EP) : XP := QX (fun ρ w => R (.returned (ρ 2)) w) (fun ρ w => R (.returned (ρ 2)) w) []
theorem b1_eq (R : EP) (ρ : Env) (w : World) : (b1 R (ρ 0) w) = codeP Try.prog (pan R) code (q1 R) ρ w := by kernel_rfl
theorem b1_ok (R : EP) (ρ : Env) (w : World) (h : b1 R (ρ 0) w) : codeP Try.prog (pan R) code (q1 R) ρ w := (b1_eq R ρ w).mp h
/-- What is owed for a call. -/
def run (R : EP) (a0 : Value) (w : World) : Prop := b1 R a0 w
theorem calls (R : EP) (a0 : Value) (w : World) (h : run R a0 w) : Calls Try.prog id #[a0] w R :=
  calls_of_t (f := id) (fn := Try.f138) (c := code) (by kernel_rfl) Try.func138 (by kernel_rfl) (by kernel_rfl) (args := [a0]) (Nat.le_of_ble_eq_true rfl) rfl (b1_ok R (envOf [a0]) w h)
theorem enters : Enters Try.prog id := fun args w => Try.call138 args w
theorem ct {a0 : Value} {w : World} {S : VP} (h : ∀ R : EP, (∀ v w, S v w → R (.returned v) w) → run R a0 w) : Ct Try.prog id #[a0] w S :=
  Ct.intro enters fun R hR => calls R a0 w (h R hR)
attribute [irreducible] b1 run
end gram_isTerm

/-! ### (*presage/gram.names).find -/
namespace gram_names_find
noncomputable def code : Code := bodyOf Try.f139
def b1 (R : EP) (x0 x1 : Value) (w : World) (_r : Tok R := tok R) : Prop :=
  NILC x0 fun v1 =>
  RUN Try.prog (pan R) (Instr.fieldAt 169 v1 1) w fun v2 w3 =>
  RUN Try.prog (pan R) (Instr.loadAt 167 v2) w3 fun v4 w5 =>
  RUN Try.prog (pan R) (Instr.lookup 167 v4 x1 false) w5 fun v6 w7 =>
  R (.returned v6) w7
abbrev q1 (R : EP) : XP := QX (fun ρ w => R (.returned (ρ 4)) w) (fun ρ w => R (.returned (ρ 4)) w) []
theorem b1_eq (R : EP) (ρ : Env) (w : World) : (b1 R (ρ 0) (ρ 1) w) = codeP Try.prog (pan R) code (q1 R) ρ w := by kernel_rfl
theorem b1_ok (R : EP) (ρ : Env) (w : World) (h : b1 R (ρ 0) (ρ 1) w) : codeP Try.prog (pan R) code (q1 R) ρ w := (b1_eq R ρ w).mp h
/-- What is owed for a call. -/
def run (R : EP) (a0 a1 : Value) (w : World) : Prop := b1 R a0 a1 w
theorem calls (R : EP) (a0 a1 : Value) (w : World) (h : run R a0 a1 w) : Calls Try.prog id #[a0, a1] w R :=
  calls_of_t (f := id) (fn := Try.f139) (c := code) (by kernel_rfl) Try.func139 (by kernel_rfl) (by kernel_rfl) (args := [a0, a1]) (Nat.le_of_ble_eq_true rfl) rfl (b1_ok R (envOf [a0, a1]) w h)
theorem enters : Enters Try.prog id := fun args w => Try.call139 args w
theorem ct {a0 a1 : Value} {w : World} {S : VP} (h : ∀ R : EP, (∀ v w, S v w → R (.returned v) w) → run R a0 a1 w) : Ct Try.prog id #[a0, a1] w S :=
  Ct.intro enters fun R hR => calls R a0 a1 w (h R hR)
attribute [irreducible] b1 run
end gram_names_find

/-! ### (*presage/gram.names).size -/
namespace gram_names_size
noncomputable def code : Code := bodyOf Try.f140
def b1 (R : EP) (x0 : Value) (w : World) (_r : Tok R := tok R) : Prop :=
  NILC x0 fun v1 =>
  RUN Try.prog (pan R) (Instr.fieldAt 169 v1 0) w fun v2 w3 =>
  RUN Try.prog (pan R) (Instr.loadAt 23 v2) w3 fun v4 w5 =>
  RUN Try.prog (pan R) (Builtin.len_ #[23] 3 #[v4]) w5 fun v6 w7 =>
  R (.returned v6) w7
abbrev q1 (R : EP) : XP := QX (fun ρ w => R (.returned (ρ 2)) w) (fun ρ w => R (.returned (ρ 2)) w) []
theorem b1_eq (R : EP) (ρ : Env) (w : World) : (b1 R (ρ 0) w) = codeP Try.prog (pan R) code (q1 R) ρ w := by kernel_rfl
theorem b1_ok (R : EP) (ρ : Env) (w : World) (h : b1 R (ρ 0) w) : codeP Try.prog (pan R) code (q1 R) ρ w := (b1_eq R ρ w).mp h
/-- What is owed for a call. -/
def run (R : EP) (a0 : Value) (w : World) : Prop := b1 R a0 w
theorem calls (R : EP) (a0 : Value) (w : World) (h : run R a0 w) : Calls Try.prog id #[a0] w R :=
  calls_of_t (f := id) (fn := Try.f140) (c := code) (by kernel_rfl) Try.func140 (by kernel_rfl) (by kernel_rfl) (args := [a0]) (Nat.le_of_ble_eq_true rfl) rfl (b1_ok R (envOf [a0]) w h)
theorem enters : Enters Try.prog id := fun args w => Try.call140 args w
theorem ct {a0 : Value} {w : World} {S : VP} (h : ∀ R : EP, (∀ v w, S v w → R (.returned v) w) → run R a0 w) : Ct Try.prog id #[a0] w S :=
  Ct.intro enters fun R hR => calls R a0 w (h R hR)
attribute [irreducible] b1 run
end gram_names_size

/-! ### (*presage/gram.names).intern -/
namespace gram_names_intern
noncomputable def code : Code := bodyOf Try.f141
noncomputable abbrev p1 : Code := dropC 2 code
def b2 (R : EP) (x0 x1 : Value) (w : World) (_r : Tok R := tok R) : Prop :=
  NILC x0 fun v1 =>
  PUR Try.prog (Instr.fieldAt 169 v1 0) fun v2 =>
  LD Try.prog (Instr.loadAt 23 v2) (World.drew w) fun v3 =>
  CALL Try.prog (pan R) strings_Clone.id #[x1] (World.drew w) fun v4 w5 =>
  Sem.run Try.prog (Instr.loadAt 23 v2) w5 = .ok v3 w5 ∧ (RUN Try.prog (pan R) (Instr.buildSlice 23 1 #[(0, v4)]) w5 fun v6 w7 =>
  Sem.run Try.prog (Instr.loadAt 23 v2) w7 = .ok v3 w7 ∧ (RUN Try.prog (pan R) (Builtin.append_ #[23, 23] 23 #[v3, v6]) w7 fun v8 w9 =>
  NILC x0 fun v10 =>
  PUR Try.prog (Instr.fieldAt 169 v10 0) fun v11 =>
  RUNU Try.prog (pan R) (Instr.storeAt 23 v11 v8) w9 fun w12 =>
  NILC x0 fun v13 =>
  PUR Try.prog (Instr.fieldAt 169 v13 1) fun v14 =>
  LD Try.prog (Instr.loadAt 167 v14) (World.drew w12) fun v15 =>
  NILC x0 fun v16 =>
  PUR Try.prog (Instr.fieldAt 169 v16 0) fun v17 =>
  LD Try.prog (Instr.loadAt 23 v17) (World.drew w12) fun v18 =>
  LD Try.prog (Builtin.len_ #[23] 3 #[v18]) (World.drew w12) fun v19 =>
  RUNU Try.prog (pan R) (Instr.mapUpdate 167 v15 x1 v19) (World.drew w12) fun w20 =>
  NILC x0 fun v21 =>
  RUN Try.prog (pan R) (Instr.fieldAt 169 v21 0) w20 fun v22 w23 =>
  RUN Try.prog (pan R) (Instr.loadAt 23 v22) w23 fun v24 w25 =>
  RUN Try.prog (pan R) (Builtin.len_ #[23] 3 #[v24]) w25 fun v26 w27 =>
  R (.returned v26) w27))
abbrev q1 (R : EP) : XP := QX (fun ρ w => R (.returned (ρ 4)) w) (fun ρ w => R (.returned (ρ 4)) w) []
theorem b2_eq (R : EP) (ρ : Env) (w : World) : (b2 R (ρ 0) (ρ 1) w) = codeP Try.prog (pan R) p1 (q1 R) ρ w := by kernel_rfl
theorem b2_ok (R : EP) (ρ : Env) (w : World) (h : b2 R (ρ 0) (ρ 1) w) : codeP Try.prog (pan R) p1 (q1 R) ρ w := (b2_eq R ρ w).mp h
def b1 (R : EP) (x0 x1 : Value) (w : World) (_r : Tok R := tok R) : Prop :=
  NILC x0 fun v1 =>
  RUN Try.prog (pan R) (Instr.fieldAt 169 v1 1) w fun v2 w3 =>
  RUN Try.prog (pan R) (Instr.loadAt 167 v2) w3 fun v4 w5 =>
  RUN Try.prog (pan R) (bins .eql 167 (.tmp 8) (.const (Go.Value.map Option.none)) v4 (Go.Value.map Option.none)) w5 fun v6 w7 =>
  SPL v6
  (RUN Try.prog (pan R) (Instr.makeMap 167 none) w7 fun v8 w9 =>
  NILC x0 fun v10 =>
  RUN Try.prog (pan R) (Instr.fieldAt 169 v10 1) w9 fun v11 w12 =>
  RUNU Try.prog (pan R) (Instr.storeAt 167 v11 v8) w12 fun w13 =>
  b2 R x0 x1 w13)
  (b2 R x0 x1 w7)
abbrev q2 (R : EP) : XP := QX (fun ρ w => b2 R (ρ 0) (ρ 1) w) (fun ρ w => R (.returned (ρ 4)) w) []
theorem b1_eq (R : EP) (ρ : Env) (w : World) : (b1 R (ρ 0) (ρ 1) w) = codeP Try.prog (pan R) (preC 1 code) (q2 R) ρ w := by kernel_rfl
theorem b1_ok (R : EP) (ρ : Env) (w : World) (h : b1 R (ρ 0) (ρ 1) w) : codeP Try.prog (pan R) code (q1 R) ρ w := by
  have e : appC 1 (preC 1 code) (dropC 2 code) = code := by kernel_rfl
  rw [← e]
  exact appQ (fun ρ w => b2 R (ρ 0) (ρ 1) w) 1 ((b1_eq R ρ w).mp h) (fun ρ w h => b2_ok R ρ w h)
/-- What is owed for a call. -/
def run (R : EP) (a0 a1 : Value) (w : World) : Prop := b1 R a0 a1 w
theorem calls (R : EP) (a0 a1 : Value) (w : World) (h : run R a0 a1 w) : Calls Try.prog id #[a0, a1] w R :=
  calls_of_t (f := id) (fn := Try.f141) (c := code) (by kernel_rfl) Try.func141 (by kernel_rfl) (by kernel_rfl) (args := [a0, a1]) (Nat.le_of_ble_eq_true rfl) rfl (b1_ok R (envOf [a0, a1]) w h)
theorem enters : Enters Try.prog id := fun args w => Try.call141 args w
theorem ct {a0 a1 : Value} {w : World} {S : VP} (h : ∀ R : EP, (∀ v w, S v w → R (.returned v) w) → run R a0 a1 w) : Ct Try.prog id #[a0, a1] w S :=
  Ct.intro enters fun R hR => calls R a0 a1 w (h R hR)
attribute [irreducible] b2 b1 run
end gram_names_intern

/-! ### (*presage/gram.Builder).isNonHandle -/
namespace gram_Builder_isNonHandle
noncomputable def code : Code := bodyOf Try.f143
def b1 (R : EP) (x0 x1 : Value) (w : World) (_r : Tok R := tok R) : Prop :=
  RUN Try.prog (pan R) (bins .lss 3 (.tmp 5) (.const (Go.Value.int Go.IntKind.i64 0)) x1 (Go.Value.int Go.IntKind.i64 0)) w fun v1 w2 =>
  SPL v1
  (NILC x0 fun v3 =>
  RUN Try.prog (pan R) (Instr.fieldAt 174 v3 1) w2 fun v4 w5 =>
  RUN Try.prog (pan R) (Instr.fieldAt 171 v4 0) w5 fun v6 w7 =>
  CALL Try.prog (pan R) gram_names_size.id #[v6] w7 fun v8 w9 =>
  RUN Try.prog (pan R) (Op.unary .neg v8) w9 fun v10 w11 =>
  RUN Try.prog (pan R) (bins .geq 3 (.tmp 8) (.tmp 14) x1 v10) w11 fun v12 w13 =>
  R (.returned v12) w13)
  (R (.returned (Go.Value.bool Bool.false)) w2)
abbrev q1 (R : EP) : XP := QX (fun ρ w => R (.returned (ρ 4)) w) (fun ρ w => R (.returned (ρ 4)) w) []
theorem b1_eq (R : EP) (ρ : Env) (w : World) : (b1 R (ρ 0) (ρ 1) w) = codeP Try.prog (pan R) code (q1 R) ρ w := by kernel_rfl
theorem b1_ok (R : EP) (ρ : Env) (w : World) (h : b1 R (ρ 0) (ρ 1) w) : codeP Try.prog (pan R) code (q1 R) ρ w := (b1_eq R ρ w).mp h
/-- What is owed for a call. -/
def run (R : EP) (a0 a1 : Value) (w : World) : Prop := b1 R a0 a1 w
theorem calls (R : EP) (a0 a1 : Value) (w : World) (h : run R a0 a1 w) : Calls Try.prog id #[a0, a1] w R :=
  calls_of_t (f := id) (fn := Try.f143) (c := code) (by kernel_rfl) Try.func143 (by kernel_rfl) (by kernel_rfl) (args := [a0, a1]) (Nat.le_of_ble_eq_true rfl) rfl (b1_ok R (envOf [a0, a1]) w h)
theorem enters : Enters Try.prog id := fun args w => Try.call143 args w
theorem ct {a0 a1 : Value} {w : World} {S : VP} (h : ∀ R : EP, (∀ v w, S v w → R (.returned v) w) → run R a0 a1 w) : Ct Try.prog id #[a0, a1] w S :=
  Ct.intro enters fun R hR => calls R a0 a1 w (h R hR)
attribute [irreducible] b1 run
end gram_Builder_isNonHandle

/-! ### presage/gram.isName -/
namespace gram_isName
noncomputable def code : Code := bodyOf Try.f142
noncomputable abbrev p1 : Code := dropC 1 code
def b3 (R : EP) (x0 : Value) (w : World) (_r : Tok R := tok R) : Prop :=
  RUN Try.prog (pan R) (bins .neq 9 (.tmp 38) (.const (Go.Value.string { data := #[] })) x0 (Go.Value.string { data := #[] })) w fun v1 w2 =>
  SPL v1
  (RUN Try.prog (pan R) (Builtin.len_ #[9] 3 #[x0]) w2 fun v3 w4 =>
  RUN Try.prog (pan R) (bins .leq 3 (.tmp 42) (.const (Go.Value.int Go.IntKind.i64 16)) v3 (Go.Value.int Go.IntKind.i64 16)) w4 fun v5 w6 =>
  R (.returned v5) w6)
  (R (.returned (Go.Value.bool Bool.false)) w2)
abbrev q1 (R : EP) : XP := QX (fun ρ w => R (.returned (ρ 2)) w) (fun ρ w => R (.returned (ρ 2)) w) []
theorem b3_eq (R : EP) (ρ : Env) (w : World) : (b3 R (ρ 0) w) = codeP Try.prog (pan R) (sndC p1) (q1 R) ρ w := by kernel_rfl
theorem b3_ok (R : EP) (ρ : Env) (w : World) (h : b3 R (ρ 0) w) : codeP Try.prog (pan R) (sndC p1) (q1 R) ρ w := (b3_eq R ρ w).mp h
noncomputable abbrev p2 : Code := dropC 1 (fstC p1)
noncomputable abbrev p3 : Code := loopC (blkC p2)
noncomputable abbrev p4 : Code := dropC 2 p3

def b9 (R : EP) (C6 : VP) (x7 : Value) (w : World) (_r : Tok R := tok R) (_C6 : Tok C6 := tok C6) : Prop :=
  RUN Try.prog (pan R) (bins .add 3 (.tmp 7) (.const (Go.Value.int Go.IntKind.i64 1)) x7 (Go.Value.int Go.IntKind.i64 1)) w fun v1 w2 =>
  C6 v1 w2
abbrev q2 (R : EP) (C6 : VP) : XP := QX (fun ρ w => C6 (ρ 7) w) (fun ρ w => R (.returned (ρ 2)) w) [(0, (fun ρ w => b3 R (ρ 0) w))]
theorem b9_eq (R : EP) (C6 : VP) (ρ : Env) (w : World) : (b9 R C6 (ρ 7) w) = codeP Try.prog (pan R) (sndC p4) (q2 R C6) ρ w := by kernel_rfl
theorem b9_ok (R : EP) (C6 : VP) (ρ : Env) (w : World) (h : b9 R C6 (ρ 7) w) : codeP Try.prog (pan R) (sndC p4) (q2 R C6) ρ w := (b9_eq R C6 ρ w).mp h
noncomputable abbrev p5 : Code := blkC (fstC p4)
noncomputable abbrev p6 : Code := dropC 3 p5

def b12 (R : EP) (C6 : VP) (x7 x36 : Value) (w : World) (_r : Tok R := tok R) (_C6 : Tok C6 := tok C6) : Prop :=
  SPL x36
  (R (.returned (Go.Value.bool Bool.false)) w)
  (b9 R C6 x7 w)
abbrev q3 (R : EP) (C6 : VP) : XP := QX (fun ρ w => b9 R C6 (ρ 7) w) (fun ρ w => R (.returned (ρ 2)) w) [(2, (fun ρ w => b9 R C6 (ρ 7) w)), (0, (fun ρ w => b3 R (ρ 0) w))]
theorem b12_eq (R : EP) (C6 : VP) (ρ : Env) (w : World) : (b12 R C6 (ρ 7) (ρ 36) w) = codeP Try.prog (pan R) p6 (q3 R C6) ρ w := by kernel_rfl
theorem b12_ok (R : EP) (C6 : VP) (ρ : Env) (w : World) (h : b12 R C6 (ρ 7) (ρ 36) w) : codeP Try.prog (pan R) p6 (q3 R C6) ρ w := (b12_eq R C6 ρ w).mp h
def b11 (R : EP) (C6 : VP) (x0 x7 : Value) (w : World) (_r : Tok R := tok R) (_C6 : Tok C6 := tok C6) : Prop :=
  RUN Try.prog (pan R) (Instr.index 9 x0 x7) w fun v1 w2 =>
  RUN Try.prog (pan R) (bins .neq 5 (.tmp 13) (.const (Go.Value.int Go.IntKind.u8 95)) v1 (Go.Value.int Go.IntKind.u8 95)) w2 fun v3 w4 =>
  SPL v3
  (RUN Try.prog (pan R) (bins .or 5 (.tmp 16) (.const (Go.Value.int Go.IntKind.u8 32)) v1 (Go.Value.int Go.IntKind.u8 32)) w4 fun v5 w6 =>
  RUN Try.prog (pan R) (bins .lss 5 (.tmp 17) (.const (Go.Value.int Go.IntKind.u8 97)) v5 (Go.Value.int Go.IntKind.u8 97)) w6 fun v7 w8 =>
  SPL v7
  (RUN Try.prog (pan R) (bins .eql 3 (.tmp 26) (.const (Go.Value.int Go.IntKind.i64 0)) x7 (Go.Value.int Go.IntKind.i64 0)) w8 fun v9 w10 =>
  SPL v9
  (b12 R C6 x7 (Go.Value.bool Bool.true) w10)
  (RUN Try.prog (pan R) (bins .lss 5 (.tmp 29) (.const (Go.Value.int Go.IntKind.u8 48)) v1 (Go.Value.int Go.IntKind.u8 48)) w10 fun v11 w12 =>
  SPL v11
  (b12 R C6 x7 (Go.Value.bool Bool.true) w12)
  (RUN Try.prog (pan R) (bins .gtr 5 (.tmp 33) (.const (Go.Value.int Go.IntKind.u8 57)) v1 (Go.Value.int Go.IntKind.u8 57)) w12 fun v13 w14 =>
  b12 R C6 x7 v13 w14)))
  (RUN Try.prog (pan R) (bins .or 5 (.tmp 20) (.const (Go.Value.int Go.IntKind.u8 32)) v1 (Go.Value.int Go.IntKind.u8 32)) w8 fun v15 w16 =>
  RUN Try.prog (pan R) (bins .gtr 5 (.tmp 21) (.const (Go.Value.int Go.IntKind.u8 122)) v15 (Go.Value.int Go.IntKind.u8 122)) w16 fun v17 w18 =>
  SPL v17
  (RUN Try.prog (pan R) (bins .eql 3 (.tmp 26) (.const (Go.Value.int Go.IntKind.i64 0)) x7 (Go.Value.int Go.IntKind.i64 0)) w18 fun v19 w20 =>
  SPL v19
  (b12 R C6 x7 (Go.Value.bool Bool.true) w20)
  (RUN Try.prog (pan R) (bins .lss 5 (.tmp 29) (.const (Go.Value.int Go.IntKind.u8 48)) v1 (Go.Value.int Go.IntKind.u8 48)) w20 fun v21 w22 =>
  SPL v21
  (b12 R C6 x7 (Go.Value.bool Bool.true) w22)
  (RUN Try.prog (pan R) (bins .gtr 5 (.tmp 33) (.const (Go.Value.int Go.IntKind.u8 57)) v1 (Go.Value.int Go.IntKind.u8 57)) w22 fun v23 w24 =>
  b12 R C6 x7 v23 w24)))
  (b12 R C6 x7 (Go.Value.bool Bool.false) w18)))
  (b12 R C6 x7 (Go.Value.bool Bool.false) w4)
abbrev q4 (R : EP) (C6 : VP) : XP := QX (fun ρ w => b12 R C6 (ρ 7) (ρ 36) w) (fun ρ w => R (.returned (ρ 2)) w) [(2, (fun ρ w => b9 R C6 (ρ 7) w)), (0, (fun ρ w => b3 R (ρ 0) w))]
theorem b11_eq (R : EP) (C6 : VP) (ρ : Env) (w : World) : (b11 R C6 (ρ 0) (ρ 7) w) = codeP Try.prog (pan R) (preC 2 p5) (q4 R C6) ρ w := by kernel_rfl
theorem b11_ok (R : EP) (C6 : VP) (ρ : Env) (w : World) (h : b11 R C6 (ρ 0) (ρ 7) w) : codeP Try.prog (pan R) p5 (q3 R C6) ρ w := by
  have e : appC 2 (preC 2 p5) (dropC 3 p5) = p5 := by kernel_rfl
  rw [← e]
  exact appQ (fun ρ w => b12 R C6 (ρ 7) (ρ 36) w) 2 ((b11_eq R C6 ρ w).mp h) (fun ρ w h => b12_ok R C6 ρ w h)
abbrev q5 (R : EP) (C6 : VP) : XP := QX (fun ρ w => b9 R C6 (ρ 7) w) (fun ρ w => R (.returned (ρ 2)) w) [(0, (fun ρ w => b3 R (ρ 0) w))]
theorem k10_ok (R : EP) (C6 : VP) (ρ : Env) (w : World) (h : b11 R C6 (ρ 0) (ρ 7) w) : codeP Try.prog (pan R) (fstC p4) (q5 R C6) ρ w := by
  have e : Code.block 1 (blkC (fstC p4)) = (fstC p4) := by kernel_rfl
  rw [← e]
  exact blockQ (b11_ok R C6 ρ w h)
theorem k8_ok (R : EP) (C6 : VP) (ρ : Env) (w : World) (h : b11 R C6 (ρ 0) (ρ 7) w) : codeP Try.prog (pan R) p4 (q2 R C6) ρ w := by
  have e : Code.seq (fstC p4) (sndC p4) = p4 := by kernel_rfl
  rw [← e]
  exact seqQ (fun ρ w => b9 R C6 (ρ 7) w) (k10_ok R C6 ρ w h) (fun ρ w h => b9_ok R C6 ρ w h)
def b7 (R : EP) (C6 : VP) (x0 x6 x7 : Value) (w : World) (_r : Tok R := tok R) (_C6 : Tok C6 := tok C6) : Prop :=
  RUN Try.prog (pan R) (bins .lss 3 (.tmp 7) (.tmp 6) x7 x6) w fun v1 w2 =>
  SPL v1
  (b11 R C6 x0 x7 w2)
  (b3 R x0 w2)
abbrev q6 (R : EP) (C6 : VP) : XP := QX (fun ρ w => b11 R C6 (ρ 0) (ρ 7) w) (fun ρ w => R (.returned (ρ 2)) w) [(0, (fun ρ w => b3 R (ρ 0) w))]
theorem b7_eq (R : EP) (C6 : VP) (ρ : Env) (w : World) : (b7 R C6 (ρ 0) (ρ 6) (ρ 7) w) = codeP Try.prog (pan R) (preC 1 p3) (q6 R C6) ρ w := by kernel_rfl
theorem b7_ok (R : EP) (C6 : VP) (ρ : Env) (w : World) (h : b7 R C6 (ρ 0) (ρ 6) (ρ 7) w) : codeP Try.prog (pan R) p3 (q2 R C6) ρ w := by
  have e : appC 1 (preC 1 p3) (dropC 2 p3) = p3 := by kernel_rfl
  rw [← e]
  exact appQ (fun ρ w => b11 R C6 (ρ 0) (ρ 7) w) 1 ((b7_eq R C6 ρ w).mp h) (fun ρ w h => k8_ok R C6 ρ w h)
def l6 (R : EP) (x0 x6 x7 : Value) (w : World) (_r : Tok R := tok R) : Prop :=
  ∃ (J : VP) (μ : Value → World → Nat), J x7 w ∧ ∀ y7 w0, J y7 w0 → b7 R (fun z7 w1 => J z7 w1 ∧ μ z7 w1 < μ y7 w0) x0 x6 y7 w0
abbrev q7 (R : EP) : XP := QX (fun ρ w => b3 R (ρ 0) w) (fun ρ w => R (.returned (ρ 2)) w) [(0, (fun ρ w => b3 R (ρ 0) w))]
theorem l6_ok (R : EP) (ρ : Env) (w : World) (h : l6 R (ρ 0) (ρ 6) (ρ 7) w) : codeP Try.prog (pan R) (blkC p2) (q7 R) ρ w := by
  unfold l6 at h
  obtain ⟨J, μ, h0, hr⟩ := h
  have e : Code.loop (loopC (blkC p2)) = (blkC p2) := by kernel_rfl
  rw [← e]
  refine loopQ (fun ρ' w' => J (ρ' 7) w') (fun ρ' w' => μ (ρ' 7) w') h0 fun ρ' w' hA hI => ?_
  have e0 : ρ' 0 = ρ 0 := Agree.at hA 0 (by kernel_rfl)
  have e6 : ρ' 6 = ρ 6 := Agree.at hA 6 (by kernel_rfl)
  have h1 := hr (ρ' 7) w' hI
  rw [← e0, ← e6] at h1
  exact b7_ok R (fun z7 w1 => J z7 w1 ∧ μ z7 w1 < μ (ρ' 7) w') ρ' w' h1
theorem l6_intro (R : EP) (x0 x6 x7 : Value) (w : World) (J : VP) (μ : Value → World → Nat) (h0 : J x7 w)
    (hr : ∀ y7 w0, J y7 w0 → ∀ C6 : VP, (∀ z7 w1, J z7 w1 → μ z7 w1 < μ y7 w0 → C6 z7 w1) → b7 R C6 x0 x6 y7 w0) : l6 R x0 x6 x7 w := by
  unfold l6
  exact ⟨J, μ, h0, fun y7 w0 hJ => hr y7 w0 hJ _ (fun z7 w1 h1 h2 => ⟨h1, h2⟩)⟩
abbrev q8 (R : EP) : XP := QX (fun ρ w => b3 R (ρ 0) w) (fun ρ w => R (.returned (ρ 2)) w) []
theorem k5_ok (R : EP) (ρ : Env) (w : World) (h : l6 R (ρ 0) (ρ 6) (ρ 7) w) : codeP Try.prog (pan R) p2 (q8 R) ρ w := by
  have e : Code.block 0 (blkC p2) = p2 := by kernel_rfl
  rw [← e]
  exact blockQ (l6_ok R ρ w h)
def b4 (R : EP) (x0 : Value) (w : World) (_r : Tok R := tok R) : Prop :=
  RUN Try.prog (pan R) (Builtin.len_ #[9] 3 #[x0]) w fun v1 w2 =>
  l6 R x0 v1 (Go.Value.int Go.IntKind.i64 0) w2
abbrev q9 (R : EP) : XP := QX (fun ρ w => l6 R (ρ 0) (ρ 6) (ρ 7) w) (fun ρ w => R (.returned (ρ 2)) w) []
theorem b4_eq (R : EP) (ρ : Env) (w : World) : (b4 R (ρ 0) w) = codeP Try.prog (pan R) (preC 0 (fstC p1)) (q9 R) ρ w := by kernel_rfl
theorem b4_ok (R : EP) (ρ : Env) (w : World) (h : b4 R (ρ 0) w) : codeP Try.prog (pan R) (fstC p1) (q8 R) ρ w := by
  have e : appC 0 (preC 0 (fstC p1)) (dropC 1 (fstC p1)) = (fstC p1) := by kernel_rfl
  rw [← e]
  exact appQ (fun ρ w => l6 R (ρ 0) (ρ 6) (ρ 7) w) 0 ((b4_eq R ρ w).mp h) (fun ρ w h => k5_ok R ρ w h)
theorem k2_ok (R : EP) (ρ : Env) (w : World) (h : b4 R (ρ 0) w) : codeP Try.prog (pan R) p1 (q1 R) ρ w := by
  have e : Code.seq (fstC p1) (sndC p1) = p1 := by kernel_rfl
  rw [← e]
  exact seqQ (fun ρ w => b3 R (ρ 0) w) (b4_ok R ρ w h) (fun ρ w h => b3_ok R ρ w h)
def b1 (R : EP) (x0 : Value) (w : World) (_r : Tok R := tok R) : Prop :=
  b4 R x0 w
abbrev q10 (R : EP) : XP := QX (fun ρ w => b4 R (ρ 0) w) (fun ρ w => R (.returned (ρ 2)) w) []
theorem b1_eq (R : EP) (ρ : Env) (w : World) : (b1 R (ρ 0) w) = codeP Try.prog (pan R) (preC 0 code) (q10 R) ρ w := by kernel_rfl
theorem b1_ok (R : EP) (ρ : Env) (w : World) (h : b1 R (ρ 0) w) : codeP Try.prog (pan R) code (q1 R) ρ w := by
  have e : appC 0 (preC 0 code) (dropC 1 code) = code := by kernel_rfl
  rw [← e]
  exact appQ (fun ρ w => b4 R (ρ 0) w) 0 ((b1_eq R ρ w).mp h) (fun ρ w h => k2_ok R ρ w h)
/-- What is owed for a call. -/
def run (R : EP) (a0 : Value) (w : World) : Prop := b1 R a0 w
theorem calls (R : EP) (a0 : Value) (w : World) (h : run R a0 w) : Calls Try.prog id #[a0] w R :=
  calls_of_t (f := id) (fn := Try.f142) (c := code) (by kernel_rfl) Try.func142 (by kernel_rfl) (by kernel_rfl) (args := [a0]) (Nat.le_of_ble_eq_true rfl) rfl (b1_ok R (envOf [a0]) w h)
theorem enters : Enters Try.prog id := fun args w => Try.call142 args w
theorem ct {a0 : Value} {w : World} {S : VP} (h : ∀ R : EP, (∀ v w, S v w → R (.returned v) w) → run R a0 w) : Ct Try.prog id #[a0] w S :=
  Ct.intro enters fun R hR => calls R a0 w (h R hR)
attribute [irreducible] b3 b9 b12 b11 b7 l6 b4 b1 run
end gram_isName

/-! ### (*presage/gram.Builder).Rule$1 -/
namespace gram_Builder_Rule_1
noncomputable def code : Code := bodyOf Try.f144
def b1 (R : EP) (x0 x1 : Value) (w : World) (_r : Tok R := tok R) : Prop :=
  RUN Try.prog (pan R) (Instr.loadAt 141 x1) w fun v1 w2 =>
  CALL Try.prog (pan R) gram_Builder_isTermHandle.id #[v1, x0] w2 fun v3 w4 =>
  RUN Try.prog (pan R) (Op.unary .not v3) w4 fun v5 w6 =>
  SPL v5
  (RUN Try.prog (pan R) (Instr.loadAt 141 x1) w6 fun v7 w8 =>
  CALL Try.prog (pan R) gram_Builder_isNonHandle.id #[v7, x0] w8 fun v9 w10 =>
  RUN Try.prog (pan R) (Op.unary .not v9) w10 fun v11 w12 =>
  R (.returned v11) w12)
  (R (.returned (Go.Value.bool Bool.false)) w6)
abbrev q1 (R : EP) : XP := QX (fun ρ w => R (.returned (ρ 3)) w) (fun ρ w => R (.returned (ρ 3)) w) []
theorem b1_eq (R : EP) (ρ : Env) (w : World) : (b1 R (ρ 0) (ρ 1) w) = codeP Try.prog (pan R) code (q1 R) ρ w := by kernel_rfl
theorem b1_ok (R : EP) (ρ : Env) (w : World) (h : b1 R (ρ 0) (ρ 1) w) : codeP Try.prog (pan R) code (q1 R) ρ w := (b1_eq R ρ w).mp h
/-- What is owed for a call. -/
def run (R : EP) (a0 a1 : Value) (w : World) : Prop := b1 R a0 a1 w
theorem calls (R : EP) (a0 a1 : Value) (w : World) (h : run R a0 a1 w) : Calls Try.prog id #[a0, a1] w R :=
  calls_of_t (f := id) (fn := Try.f144) (c := code) (by kernel_rfl) Try.func144 (by kernel_rfl) (by kernel_rfl) (args := [a0, a1]) (Nat.le_of_ble_eq_true rfl) rfl (b1_ok R (envOf [a0, a1]) w h)
theorem enters : Enters Try.prog id := fun args w => Try.call144 args w
theorem ct {a0 a1 : Value} {w : World} {S : VP} (h : ∀ R : EP, (∀ v w, S v w → R (.returned v) w) → run R a0 a1 w) : Ct Try.prog id #[a0, a1] w S :=
  Ct.intro enters fun R hR => calls R a0 a1 w (h R hR)
attribute [irreducible] b1 run
end gram_Builder_Rule_1

/-! ### (*presage/gram.Builder).isTermHandle -/
namespace gram_Builder_isTermHandle
noncomputable def code : Code := bodyOf Try.f145
def b1 (R : EP) (x0 x1 : Value) (w : World) (_r : Tok R := tok R) : Prop :=
  RUN Try.prog (pan R) (bins .gtr 3 (.tmp 5) (.const (Go.Value.int Go.IntKind.i64 0)) x1 (Go.Value.int Go.IntKind.i64 0)) w fun v1 w2 =>
  SPL v1
  (NILC x0 fun v3 =>
  RUN Try.prog (pan R) (Instr.fieldAt 174 v3 0) w2 fun v4 w5 =>
  CALL Try.prog (pan R) gram_names_size.id #[v4] w5 fun v6 w7 =>
  RUN Try.prog (pan R) (bins .leq 3 (.tmp 8) (.tmp 12) x1 v6) w7 fun v8 w9 =>
  R (.returned v8) w9)
  (R (.returned (Go.Value.bool Bool.false)) w2)
abbrev q1 (R : EP) : XP := QX (fun ρ w => R (.returned (ρ 4)) w) (fun ρ w => R (.returned (ρ 4)) w) []
theorem b1_eq (R : EP) (ρ : Env) (w : World) : (b1 R (ρ 0) (ρ 1) w) = codeP Try.prog (pan R) code (q1 R) ρ w := by kernel_rfl
theorem b1_ok (R : EP) (ρ : Env) (w : World) (h : b1 R (ρ 0) (ρ 1) w) : codeP Try.prog (pan R) code (q1 R) ρ w := (b1_eq R ρ w).mp h
/-- What is owed for a call. -/
def run (R : EP) (a0 a1 : Value) (w : World) : Prop := b1 R a0 a1 w
theorem calls (R : EP) (a0 a1 : Value) (w : World) (h : run R a0 a1 w) : Calls Try.prog id #[a0, a1] w R :=
  calls_of_t (f := id) (fn := Try.f145) (c := code) (by kernel_rfl) Try.func145 (by kernel_rfl) (by kernel_rfl) (args := [a0, a1]) (Nat.le_of_ble_eq_true rfl) rfl (b1_ok R (envOf [a0, a1]) w h)
theorem enters : Enters Try.prog id := fun args w => Try.call145 args w
theorem ct {a0 a1 : Value} {w : World} {S : VP} (h : ∀ R : EP, (∀ v w, S v w → R (.returned v) w) → run R a0 a1 w) : Ct Try.prog id #[a0, a1] w S :=
  Ct.intro enters fun R hR => calls R a0 a1 w (h R hR)
attribute [irreducible] b1 run
end gram_Builder_isTermHandle

/-! ### presage/gram.isTerm$1 -/
namespace gram_isTerm_1
noncomputable def code : Code := bodyOf Try.f157
def b1 (R : EP) (x0 : Value) (w : World) (_r : Tok R := tok R) : Prop :=
  RUN Try.prog (pan R) (bins .lss 21 (.tmp 3) (.const (Go.Value.int Go.IntKind.i32 32)) x0 (Go.Value.int Go.IntKind.i32 32)) w fun v1 w2 =>
  SPL v1
  (R (.returned (Go.Value.bool Bool.true)) w2)
  (RUN Try.prog (pan R) (bins .gtr 21 (.tmp 6) (.const (Go.Value.int Go.IntKind.i32 126)) x0 (Go.Value.int Go.IntKind.i32 126)) w2 fun v3 w4 =>
  SPL v3
  (R (.returned (Go.Value.bool Bool.true)) w4)
  (RUN Try.prog (pan R) (bins .eql 21 (.tmp 10) (.const (Go.Value.int Go.IntKind.i32 39)) x0 (Go.Value.int Go.IntKind.i32 39)) w4 fun v5 w6 =>
  R (.returned v5) w6))
abbrev q1 (R : EP) : XP := QX (fun ρ w => R (.returned (ρ 2)) w) (fun ρ w => R (.returned (ρ 2)) w) []
theorem b1_eq (R : EP) (ρ : Env) (w : World) : (b1 R (ρ 0) w) = codeP Try.prog (pan R) code (q1 R) ρ w := by kernel_rfl
theorem b1_ok (R : EP) (ρ : Env) (w : World) (h : b1 R (ρ 0) w) : codeP Try.prog (pan R) code (q1 R) ρ w := (b1_eq R ρ w).mp h
/-- What is owed for a call. -/
def run (R : EP) (a0 : Value) (w : World) : Prop := b1 R a0 w
theorem calls (R : EP) (a0 : Value) (w : World) (h : run R a0 w) : Calls Try.prog id #[a0] w R :=
  calls_of_t (f := id) (fn := Try.f157) (c := code) (by kernel_rfl) Try.func157 (by kernel_rfl) (by kernel_rfl) (args := [a0]) (Nat.le_of_ble_eq_true rfl) rfl (b1_ok R (envOf [a0]) w h)
theorem enters : Enters Try.prog id := fun args w => Try.call157 args w
theorem ct {a0 : Value} {w : World} {S : VP} (h : ∀ R : EP, (∀ v w, S v w → R (.returned v) w) → run R a0 w) : Ct Try.prog id #[a0] w S :=
  Ct.intro enters fun R hR => calls R a0 w (h R hR)
attribute [irreducible] b1 run
end gram_isTerm_1
end Go.Proofs.Ytkacbjhiobnbfaa

/- Shallow programs, written by a program of ours (gen.py) off the translation; each is tied to the code by the kernel. -/
set_option linter.unusedVariables false
set_option maxRecDepth 100000
namespace Go.Proofs.Ytkacbjhiobnbfaa
open Go.Px

/-! ### strings.IndexFunc -/
namespace strings_IndexFunc
noncomputable def code : Code := bodyOf Try.f156
def b1 (R : EP) (x0 x1 : Value) (w : World) (_r : Tok R := tok R) : Prop :=
  CALL Try.prog (pan R) strings_indexFunc.id #[x0, x1, (Go.Value.bool Bool.true)] w fun v1 w2 =>
  R (.returned v1) w2
abbrev q1 (R : EP) : XP := QX (fun ρ w => R (.returned (ρ 4)) w) (fun ρ w => R (.returned (ρ 4)) w) []
theorem b1_eq (R : EP) (ρ : Env) (w : World) : (b1 R (ρ 0) (ρ 1) w) = codeP Try.prog (pan R) code (q1 R) ρ w := by kernel_rfl
theorem b1_ok (R : EP) (ρ : Env) (w : World) (h : b1 R (ρ 0) (ρ 1) w) : codeP Try.prog (pan R) code (q1 R) ρ w := (b1_eq R ρ w).mp h
/-- What is owed for a call. -/
def run (R : EP) (a0 a1 : Value) (w : World) : Prop := b1 R a0 a1 w
theorem calls (R : EP) (a0 a1 : Value) (w : World) (h : run R a0 a1 w) : Calls Try.prog id #[a0, a1] w R :=
  calls_of_t (f := id) (fn := Try.f156) (c := code) (by kernel_rfl) Try.func156 (by kernel_rfl) (by kernel_rfl) (args := [a0, a1]) (Nat.le_of_ble_eq_true rfl) rfl (b1_ok R (envOf [a0, a1]) w h)
theorem enters : Enters Try.prog id := fun args w => Try.call156 args w
theorem ct {a0 a1 : Value} {w : World} {S : VP} (h : ∀ R : EP, (∀ v w, S v w → R (.returned v) w) → run R a0 a1 w) : Ct Try.prog id #[a0, a1] w S :=
  Ct.intro enters fun R hR => calls R a0 a1 w (h R hR)
attribute [irreducible] b1 run
end strings_IndexFunc

/-! ### strings.Clone -/
namespace strings_Clone
noncomputable def code : Code := bodyOf Try.f158
def b1 (R : EP) (x0 : Value) (w : World) (_r : Tok R := tok R) : Prop :=
  CALL Try.prog (pan R) internal_stringslite_Clone.id #[x0] w fun v1 w2 =>
  R (.returned v1) w2
abbrev q1 (R : EP) : XP := QX (fun ρ w => R (.returned (ρ 2)) w) (fun ρ w => R (.returned (ρ 2)) w) []
theorem b1_eq (R : EP) (ρ : Env) (w : World) : (b1 R (ρ 0) w) = codeP Try.prog (pan R) code (q1 R) ρ w := by kernel_rfl
theorem b1_ok (R : EP) (ρ : Env) (w : World) (h : b1 R (ρ 0) w) : codeP Try.prog (pan R) code (q1 R) ρ w := (b1_eq R ρ w).mp h
/-- What is owed for a call. -/
def run (R : EP) (a0 : Value) (w : World) : Prop := b1 R a0 w
theorem calls (R : EP) (a0 : Value) (w : World) (h : run R a0 w) : Calls Try.prog id #[a0] w R :=
  calls_of_t (f := id) (fn := Try.f158) (c := code) (by kernel_rfl) Try.func158 (by kernel_rfl) (by kernel_rfl) (args := [a0]) (Nat.le_of_ble_eq_true rfl) rfl (b1_ok R (envOf [a0]) w h)
theorem enters : Enters Try.prog id := fun args w => Try.call158 args w
theorem ct {a0 : Value} {w : World} {S : VP} (h : ∀ R : EP, (∀ v w, S v w → R (.returned v) w) → run R a0 w) : Ct Try.prog id #[a0] w S :=
  Ct.intro enters fun R hR => calls R a0 w (h R hR)
attribute [irreducible] b1 run
end strings_Clone

/-! ### strings.indexFunc -/
namespace strings_indexFunc
noncomputable def code : Code := bodyOf Try.f162
noncomputable abbrev p1 : Code := dropC 1 code

def b3 (R : EP) (w : World) (_r : Tok R := tok R) : Prop :=
  R (.returned (Go.Value.int Go.IntKind.i64 (-1))) w
abbrev q1 (R : EP) : XP := QX (fun ρ w => R (.returned (ρ 6)) w) (fun ρ w => R (.returned (ρ 6)) w) []
theorem b3_eq (R : EP) (ρ : Env) (w : World) : (b3 R w) = codeP Try.prog (pan R) (sndC p1) (q1 R) ρ w := by kernel_rfl
theorem b3_ok (R : EP) (ρ : Env) (w : World) (h : b3 R w) : codeP Try.prog (pan R) (sndC p1) (q1 R) ρ w := (b3_eq R ρ w).mp h
noncomputable abbrev p2 : Code := dropC 1 (fstC p1)
noncomputable abbrev p3 : Code := loopC (blkC p2)
def b7 (R : EP) (C6 : World → Prop) (x1 x2 x10 : Value) (w : World) (_r : Tok R := tok R) (_C6 : Tok C6 := tok C6) : Prop :=
  RUN Try.prog (pan R) (Instr.next x10 true 0) w fun v1 w2 =>
  RUN Try.prog (pan R) (Instr.extract v1 0) w2 fun v3 w4 =>
  SPL v3
  (RUN Try.prog (pan R) (Instr.extract v1 1) w4 fun v5 w6 =>
  RUN Try.prog (pan R) (Instr.extract v1 2) w6 fun v7 w8 =>
  CALLY Try.prog (pan R) x1 [v7] w8 fun v9 w10 =>
  RUN Try.prog (pan R) (bins .eql 4 (.tmp 17) (.tmp 18) v9 x2) w10 fun v11 w12 =>
  SPL v11
  (R (.returned v5) w12)
  (C6  w12))
  (b3 R w4)
abbrev q2 (R : EP) (C6 : World → Prop) : XP := QX (fun ρ w => C6  w) (fun ρ w => R (.returned (ρ 6)) w) [(0, (fun ρ w => b3 R  w))]
theorem b7_eq (R : EP) (C6 : World → Prop) (ρ : Env) (w : World) : (b7 R C6 (ρ 1) (ρ 2) (ρ 10) w) = codeP Try.prog (pan R) p3 (q2 R C6) ρ w := by kernel_rfl
theorem b7_ok (R : EP) (C6 : World → Prop) (ρ : Env) (w : World) (h : b7 R C6 (ρ 1) (ρ 2) (ρ 10) w) : codeP Try.prog (pan R) p3 (q2 R C6) ρ w := (b7_eq R C6 ρ w).mp h
def l6 (R : EP) (x1 x2 x10 : Value) (w : World) (_r : Tok R := tok R) : Prop :=
  ∃ (J : World → Prop) (μ : World → Nat), J  w ∧ ∀ w0, J  w0 → b7 R (fun  w1 => J  w1 ∧ μ  w1 < μ  w0) x1 x2 x10 w0
abbrev q3 (R : EP) : XP := QX (fun ρ w => b3 R  w) (fun ρ w => R (.returned (ρ 6)) w) [(0, (fun ρ w => b3 R  w))]
theorem l6_ok (R : EP) (ρ : Env) (w : World) (h : l6 R (ρ 1) (ρ 2) (ρ 10) w) : codeP Try.prog (pan R) (blkC p2) (q3 R) ρ w := by
  unfold l6 at h
  obtain ⟨J, μ, h0, hr⟩ := h
  have e : Code.loop (loopC (blkC p2)) = (blkC p2) := by kernel_rfl
  rw [← e]
  refine loopQ (fun ρ' w' => J  w') (fun ρ' w' => μ  w') h0 fun ρ' w' hA hI => ?_
  have e1 : ρ' 1 = ρ 1 := Agree.at hA 1 (by kernel_rfl)
  have e2 : ρ' 2 = ρ 2 := Agree.at hA 2 (by kernel_rfl)
  have e10 : ρ' 10 = ρ 10 := Agree.at hA 10 (by kernel_rfl)
  have h1 := hr  w' hI
  rw [← e1, ← e2, ← e10] at h1
  exact b7_ok R (fun  w1 => J  w1 ∧ μ  w1 < μ  w') ρ' w' h1
theorem l6_intro (R : EP) (x1 x2 x10 : Value) (w : World) (J : World → Prop) (μ : World → Nat) (h0 : J  w)
    (hr : ∀ w0, J  w0 → ∀ C6 : World → Prop, (∀  w1, J  w1 → μ  w1 < μ  w0 → C6  w1) → b7 R C6 x1 x2 x10 w0) : l6 R x1 x2 x10 w := by
  unfold l6
  exact ⟨J, μ, h0, fun  w0 hJ => hr  w0 hJ _ (fun  w1 h1 h2 => ⟨h1, h2⟩)⟩
abbrev q4 (R : EP) : XP := QX (fun ρ w => b3 R  w) (fun ρ w => R (.returned (ρ 6)) w) []
theorem k5_ok (R : EP) (ρ : Env) (w : World) (h : l6 R (ρ 1) (ρ 2) (ρ 10) w) : codeP Try.prog (pan R) p2 (q4 R) ρ w := by
  have e : Code.block 0 (blkC p2) = p2 := by kernel_rfl
  rw [← e]
  exact blockQ (l6_ok R ρ w h)
def b4 (R : EP) (x0 x1 x2 : Value) (w : World) (_r : Tok R := tok R) : Prop :=
  RUN Try.prog (pan R) (Instr.range 9 x0) w fun v1 w2 =>
  l6 R x1 x2 v1 w2
abbrev q5 (R : EP) : XP := QX (fun ρ w => l6 R (ρ 1) (ρ 2) (ρ 10) w) (fun ρ w => R (.returned (ρ 6)) w) []
theorem b4_eq (R : EP) (ρ : Env) (w : World) : (b4 R (ρ 0) (ρ 1) (ρ 2) w) = codeP Try.prog (pan R) (preC 0 (fstC p1)) (q5 R) ρ w := by kernel_rfl
theorem b4_ok (R : EP) (ρ : Env) (w : World) (h : b4 R (ρ 0) (ρ 1) (ρ 2) w) : codeP Try.prog (pan R) (fstC p1) (q4 R) ρ w := by
  have e : appC 0 (preC 0 (fstC p1)) (dropC 1 (fstC p1)) = (fstC p1) := by kernel_rfl
  rw [← e]
  exact appQ (fun ρ w => l6 R (ρ 1) (ρ 2) (ρ 10) w) 0 ((b4_eq R ρ w).mp h) (fun ρ w h => k5_ok R ρ w h)
theorem k2_ok (R : EP) (ρ : Env) (w : World) (h : b4 R (ρ 0) (ρ 1) (ρ 2) w) : codeP Try.prog (pan R) p1 (q1 R) ρ w := by
  have e : Code.seq (fstC p1) (sndC p1) = p1 := by kernel_rfl
  rw [← e]
  exact seqQ (fun ρ w => b3 R  w) (b4_ok R ρ w h) (fun ρ w h => b3_ok R ρ w h)
def b1 (R : EP) (x0 x1 x2 : Value) (w : World) (_r : Tok R := tok R) : Prop :=
  b4 R x0 x1 x2 w
abbrev q6 (R : EP) : XP := QX (fun ρ w => b4 R (ρ 0) (ρ 1) (ρ 2) w) (fun ρ w => R (.returned (ρ 6)) w) []
theorem b1_eq (R : EP) (ρ : Env) (w : World) : (b1 R (ρ 0) (ρ 1) (ρ 2) w) = codeP Try.prog (pan R) (preC 0 code) (q6 R) ρ w := by kernel_rfl
theorem b1_ok (R : EP) (ρ : Env) (w : World) (h : b1 R (ρ 0) (ρ 1) (ρ 2) w) : codeP Try.prog (pan R) code (q1 R) ρ w := by
  have e : appC 0 (preC 0 code) (dropC 1 code) = code := by kernel_rfl
  rw [← e]
  exact appQ (fun ρ w => b4 R (ρ 0) (ρ 1) (ρ 2) w) 0 ((b1_eq R ρ w).mp h) (fun ρ w h => k2_ok R ρ w h)
/-- What is owed for a call. -/
def run (R : EP) (a0 a1 a2 : Value) (w : World) : Prop := b1 R a0 a1 a2 w
theorem calls (R : EP) (a0 a1 a2 : Value) (w : World) (h : run R a0 a1 a2 w) : Calls Try.prog id #[a0, a1, a2] w R :=
  calls_of_t (f := id) (fn := Try.f162) (c := code) (by kernel_rfl) Try.func162 (by kernel_rfl) (by kernel_rfl) (args := [a0, a1, a2]) (Nat.le_of_ble_eq_true rfl) rfl (b1_ok R (envOf [a0, a1, a2]) w h)
theorem enters : Enters Try.prog id := fun args w => Try.call162 args w
theorem ct {a0 a1 a2 : Value} {w : World} {S : VP} (h : ∀ R : EP, (∀ v w, S v w → R (.returned v) w) → run R a0 a1 a2 w) : Ct Try.prog id #[a0, a1, a2] w S :=
  Ct.intro enters fun R hR => calls R a0 a1 a2 w (h R hR)
attribute [irreducible] b3 b7 l6 b4 b1 run
end strings_indexFunc

/-! ### internal/stringslite.Clone -/
namespace internal_stringslite_Clone
noncomputable def code : Code := bodyOf Try.f163
def b1 (R : EP) (x0 : Value) (w : World) (_r : Tok R := tok R) : Prop :=
  RUN Try.prog (pan R) (Builtin.len_ #[9] 3 #[x0]) w fun v1 w2 =>
  RUN Try.prog (pan R) (bins .eql 3 (.tmp 5) (.const (Go.Value.int Go.IntKind.i64 0)) v1 (Go.Value.int Go.IntKind.i64 0)) w2 fun v3 w4 =>
  SPL v3
  (R (.returned (Go.Value.string { data := #[] })) w4)
  (RUN Try.prog (pan R) (Builtin.len_ #[9] 3 #[x0]) w4 fun v5 w6 =>
  RUN Try.prog (pan R) (Instr.makeSlice 98 v5 v5) w6 fun v7 w8 =>
  RUN Try.prog (pan R) (Builtin.copy_ #[98, 9] 3 #[v7, x0]) w8 fun v9 w10 =>
  RUN Try.prog (pan R) (Instr.indexAt 98 v7 (Go.Value.int Go.IntKind.i64 0)) w10 fun v11 w12 =>
  RUN Try.prog (pan R) (Builtin.len_ #[98] 3 #[v7]) w12 fun v13 w14 =>
  RUN Try.prog (pan R) (Builtin.unsafeString_ #[155, 3] 9 #[v11, v13]) w14 fun v15 w16 =>
  R (.returned v15) w16)
abbrev q1 (R : EP) : XP := QX (fun ρ w => R (.returned (ρ 2)) w) (fun ρ w => R (.returned (ρ 2)) w) []
theorem b1_eq (R : EP) (ρ : Env) (w : World) : (b1 R (ρ 0) w) = codeP Try.prog (pan R) code (q1 R) ρ w := by kernel_rfl
theorem b1_ok (R : EP) (ρ : Env) (w : World) (h : b1 R (ρ 0) w) : codeP Try.prog (pan R) code (q1 R) ρ w := (b1_eq R ρ w).mp h
/-- What is owed for a call. -/
def run (R : EP) (a0 : Value) (w : World) : Prop := b1 R a0 w
theorem calls (R : EP) (a0 : Value) (w : World) (h : run R a0 w) : Calls Try.prog id #[a0] w R :=
  calls_of_t (f := id) (fn := Try.f163) (c := code) (by kernel_rfl) Try.func163 (by kernel_rfl) (by kernel_rfl) (args := [a0]) (Nat.le_of_ble_eq_true rfl) rfl (b1_ok R (envOf [a0]) w h)
theorem enters : Enters Try.prog id := fun args w => Try.call163 args w
theorem ct {a0 : Value} {w : World} {S : VP} (h : ∀ R : EP, (∀ v w, S v w → R (.returned v) w) → run R a0 w) : Ct Try.prog id #[a0] w S :=
  Ct.intro enters fun R hR => calls R a0 w (h R hR)
attribute [irreducible] b1 run
end internal_stringslite_Clone

/-! ### slices.ContainsFunc[[]int,int] -/
namespace slices_ContainsFunc_int_int
noncomputable def code : Code := bodyOf Try.f78
def b1 (R : EP) (x0 x1 : Value) (w : World) (_r : Tok R := tok R) : Prop :=
  CALL Try.prog (pan R) slices_IndexFunc_int_int.id #[x0, x1] w fun v1 w2 =>
  RUN Try.prog (pan R) (bins .geq 3 (.tmp 7) (.const (Go.Value.int Go.IntKind.i64 0)) v1 (Go.Value.int Go.IntKind.i64 0)) w2 fun v3 w4 =>
  R (.returned v3) w4
abbrev q1 (R : EP) : XP := QX (fun ρ w => R (.returned (ρ 4)) w) (fun ρ w => R (.returned (ρ 4)) w) []
theorem b1_eq (R : EP) (ρ : Env) (w : World) : (b1 R (ρ 0) (ρ 1) w) = codeP Try.prog (pan R) code (q1 R) ρ w := by kernel_rfl
theorem b1_ok (R : EP) (ρ : Env) (w : World) (h : b1 R (ρ 0) (ρ 1) w) : codeP Try.prog (pan R) code (q1 R) ρ w := (b1_eq R ρ w).mp h
/-- What is owed for a call. -/
def run (R : EP) (a0 a1 : Value) (w : World) : Prop := b1 R a0 a1 w
theorem calls (R : EP) (a0 a1 : Value) (w : World) (h : run R a0 a1 w) : Calls Try.prog id #[a0, a1] w R :=
  calls_of_t (f := id) (fn := Try.f78) (c := code) (by kernel_rfl) Try.func78 (by kernel_rfl) (by kernel_rfl) (args := [a0, a1]) (Nat.le_of_ble_eq_true rfl) rfl (b1_ok R (envOf [a0, a1]) w h)
theorem enters : Enters Try.prog id := fun args w => Try.call78 args w
theorem ct {a0 a1 : Value} {w : World} {S : VP} (h : ∀ R : EP, (∀ v w, S v w → R (.returned v) w) → run R a0 a1 w) : Ct Try.prog id #[a0, a1] w S :=
  Ct.intro enters fun R hR => calls R a0 a1 w (h R hR)
attribute [irreducible] b1 run
end slices_ContainsFunc_int_int

/-! ### slices.IndexFunc[[]int,int] -/
namespace slices_IndexFunc_int_int
noncomputable def code : Code := bodyOf Try.f125
noncomputable abbrev p1 : Code := dropC 1 code

def b3 (R : EP) (w : World) (_r : Tok R := tok R) : Prop :=
  R (.returned (Go.Value.int Go.IntKind.i64 (-1))) w
abbrev q1 (R : EP) : XP := QX (fun ρ w => R (.returned (ρ 4)) w) (fun ρ w => R (.returned (ρ 4)) w) []
theorem b3_eq (R : EP) (ρ : Env) (w : World) : (b3 R w) = codeP Try.prog (pan R) (sndC p1) (q1 R) ρ w := by kernel_rfl
theorem b3_ok (R : EP) (ρ : Env) (w : World) (h : b3 R w) : codeP Try.prog (pan R) (sndC p1) (q1 R) ρ w := (b3_eq R ρ w).mp h
noncomputable abbrev p2 : Code := dropC 1 (fstC p1)
noncomputable abbrev p3 : Code := loopC (blkC p2)
def b7 (R : EP) (C6 : VP) (x0 x1 x7 x8 : Value) (w : World) (_r : Tok R := tok R) (_C6 : Tok C6 := tok C6) : Prop :=
  RUN Try.prog (pan R) (bins .lss 3 (.tmp 8) (.tmp 7) x8 x7) w fun v1 w2 =>
  SPL v1
  (RUN Try.prog (pan R) (Instr.indexAt 24 x0 x8) w2 fun v3 w4 =>
  RUN Try.prog (pan R) (Instr.loadAt 3 v3) w4 fun v5 w6 =>
  CALLY Try.prog (pan R) x1 [v5] w6 fun v7 w8 =>
  SPL v7
  (R (.returned x8) w8)
  (RUN Try.prog (pan R) (bins .add 3 (.tmp 8) (.const (Go.Value.int Go.IntKind.i64 1)) x8 (Go.Value.int Go.IntKind.i64 1)) w8 fun v9 w10 =>
  C6 v9 w10))
  (b3 R w2)
abbrev q2 (R : EP) (C6 : VP) : XP := QX (fun ρ w => C6 (ρ 8) w) (fun ρ w => R (.returned (ρ 4)) w) [(0, (fun ρ w => b3 R  w))]
theorem b7_eq (R : EP) (C6 : VP) (ρ : Env) (w : World) : (b7 R C6 (ρ 0) (ρ 1) (ρ 7) (ρ 8) w) = codeP Try.prog (pan R) p3 (q2 R C6) ρ w := by kernel_rfl
theorem b7_ok (R : EP) (C6 : VP) (ρ : Env) (w : World) (h : b7 R C6 (ρ 0) (ρ 1) (ρ 7) (ρ 8) w) : codeP Try.prog (pan R) p3 (q2 R C6) ρ w := (b7_eq R C6 ρ w).mp h
def l6 (R : EP) (x0 x1 x7 x8 : Value) (w : World) (_r : Tok R := tok R) : Prop :=
  ∃ (J : VP) (μ : Value → World → Nat), J x8 w ∧ ∀ y8 w0, J y8 w0 → b7 R (fun z8 w1 => J z8 w1 ∧ μ z8 w1 < μ y8 w0) x0 x1 x7 y8 w0
abbrev q3 (R : EP) : XP := QX (fun ρ w => b3 R  w) (fun ρ w => R (.returned (ρ 4)) w) [(0, (fun ρ w => b3 R  w))]
theorem l6_ok (R : EP) (ρ : Env) (w : World) (h : l6 R (ρ 0) (ρ 1) (ρ 7) (ρ 8) w) : codeP Try.prog (pan R) (blkC p2) (q3 R) ρ w := by
  unfold l6 at h
  obtain ⟨J, μ, h0, hr⟩ := h
  have e : Code.loop (loopC (blkC p2)) = (blkC p2) := by kernel_rfl
  rw [← e]
  refine loopQ (fun ρ' w' => J (ρ' 8) w') (fun ρ' w' => μ (ρ' 8) w') h0 fun ρ' w' hA hI => ?_
  have e0 : ρ' 0 = ρ 0 := Agree.at hA 0 (by kernel_rfl)
  have e1 : ρ' 1 = ρ 1 := Agree.at hA 1 (by kernel_rfl)
  have e7 : ρ' 7 = ρ 7 := Agree.at hA 7 (by kernel_rfl)
  have h1 := hr (ρ' 8) w' hI
  rw [← e0, ← e1, ← e7] at h1
  exact b7_ok R (fun z8 w1 => J z8 w1 ∧ μ z8 w1 < μ (ρ' 8) w') ρ' w' h1
theorem l6_intro (R : EP) (x0 x1 x7 x8 : Value) (w : World) (J : VP) (μ : Value → World → Nat) (h0 : J x8 w)
    (hr : ∀ y8 w0, J y8 w0 → ∀ C6 : VP, (∀ z8 w1, J z8 w1 → μ z8 w1 < μ y8 w0 → C6 z8 w1) → b7 R C6 x0 x1 x7 y8 w0) : l6 R x0 x1 x7 x8 w := by
  unfold l6
  exact ⟨J, μ, h0, fun y8 w0 hJ => hr y8 w0 hJ _ (fun z8 w1 h1 h2 => ⟨h1, h2⟩)⟩
abbrev q4 (R : EP) : XP := QX (fun ρ w => b3 R  w) (fun ρ w => R (.returned (ρ 4)) w) []
theorem k5_ok (R : EP) (ρ : Env) (w : World) (h : l6 R (ρ 0) (ρ 1) (ρ 7) (ρ 8) w) : codeP Try.prog (pan R) p2 (q4 R) ρ w := by
  have e : Code.block 0 (blkC p2) = p2 := by kernel_rfl
  rw [← e]
  exact blockQ (l6_ok R ρ w h)
def b4 (R : EP) (x0 x1 : Value) (w : World) (_r : Tok R := tok R) : Prop :=
  RUN Try.prog (pan R) (Builtin.len_ #[24] 3 #[x0]) w fun v1 w2 =>
  l6 R x0 x1 v1 (Go.Value.int Go.IntKind.i64 0) w2
abbrev q5 (R : EP) : XP := QX (fun ρ w => l6 R (ρ 0) (ρ 1) (ρ 7) (ρ 8) w) (fun ρ w => R (.returned (ρ 4)) w) []
theorem b4_eq (R : EP) (ρ : Env) (w : World) : (b4 R (ρ 0) (ρ 1) w) = codeP Try.prog (pan R) (preC 0 (fstC p1)) (q5 R) ρ w := by kernel_rfl
theorem b4_ok (R : EP) (ρ : Env) (w : World) (h : b4 R (ρ 0) (ρ 1) w) : codeP Try.prog (pan R) (fstC p1) (q4 R) ρ w := by
  have e : appC 0 (preC 0 (fstC p1)) (dropC 1 (fstC p1)) = (fstC p1) := by kernel_rfl
  rw [← e]
  exact appQ (fun ρ w => l6 R (ρ 0) (ρ 1) (ρ 7) (ρ 8) w) 0 ((b4_eq R ρ w).mp h) (fun ρ w h => k5_ok R ρ w h)
theorem k2_ok (R : EP) (ρ : Env) (w : World) (h : b4 R (ρ 0) (ρ 1) w) : codeP Try.prog (pan R) p1 (q1 R) ρ w := by
  have e : Code.seq (fstC p1) (sndC p1) = p1 := by kernel_rfl
  rw [← e]
  exact seqQ (fun ρ w => b3 R  w) (b4_ok R ρ w h) (fun ρ w h => b3_ok R ρ w h)
def b1 (R : EP) (x0 x1 : Value) (w : World) (_r : Tok R := tok R) : Prop :=
  b4 R x0 x1 w
abbrev q6 (R : EP) : XP := QX (fun ρ w => b4 R (ρ 0) (ρ 1) w) (fun ρ w => R (.returned (ρ 4)) w) []
theorem b1_eq (R : EP) (ρ : Env) (w : World) : (b1 R (ρ 0) (ρ 1) w) = codeP Try.prog (pan R) (preC 0 code) (q6 R) ρ w := by kernel_rfl
theorem b1_ok (R : EP) (ρ : Env) (w : World) (h : b1 R (ρ 0) (ρ 1) w) : codeP Try.prog (pan R) code (q1 R) ρ w := by
  have e : appC 0 (preC 0 code) (dropC 1 code) = code := by kernel_rfl
  rw [← e]
  exact appQ (fun ρ w => b4 R (ρ 0) (ρ 1) w) 0 ((b1_eq R ρ w).mp h) (fun ρ w h => k2_ok R ρ w h)
/-- What is owed for a call. -/
def run (R : EP) (a0 a1 : Value) (w : World) : Prop := b1 R a0 a1 w
theorem calls (R : EP) (a0 a1 : Value) (w : World) (h : run R a0 a1 w) : Calls Try.prog id #[a0, a1] w R :=
  calls_of_t (f := id) (fn := Try.f125) (c := code) (by kernel_rfl) Try.func125 (by kernel_rfl) (by kernel_rfl) (args := [a0, a1]) (Nat.le_of_ble_eq_true rfl) rfl (b1_ok R (envOf [a0, a1]) w h)
theorem enters : Enters Try.prog id := fun args w => Try.call125 args w
theorem ct {a0 a1 : Value} {w : World} {S : VP} (h : ∀ R : EP, (∀ v w, S v w → R (.returned v) w) → run R a0 a1 w) : Ct Try.prog id #[a0, a1] w S :=
  Ct.intro enters fun R hR => calls R a0 a1 w (h R hR)
attribute [irreducible] b3 b7 l6 b4 b1 run
end slices_IndexFunc_int_int

/-! ### slices.Clone[[]int,int] -/
namespace slices_Clone_int_int
noncomputable def code : Code := bodyOf Try.f99
def b1 (R : EP) (x0 : Value) (w : World) (_r : Tok R := tok R) : Prop :=
  RUN Try.prog (pan R) (bins .eql 24 (.tmp 3) (.const (Go.Value.slice Option.none 0 0)) x0 (Go.Value.slice Option.none 0 0)) w fun v1 w2 =>
  SPL v1
  (R (.returned (Go.Value.slice Option.none 0 0)) w2)
  (RUN Try.prog (pan R) (Instr.buildSlice 24 0 #[]) w2 fun v3 w4 =>
  RUN Try.prog (pan R) (Builtin.append_ #[24, 24] 24 #[v3, x0]) w4 fun v5 w6 =>
  R (.returned v5) w6)
abbrev q1 (R : EP) : XP := QX (fun ρ w => R (.returned (ρ 2)) w) (fun ρ w => R (.returned (ρ 2)) w) []
theorem b1_eq (R : EP) (ρ : Env) (w : World) : (b1 R (ρ 0) w) = codeP Try.prog (pan R) code (q1 R) ρ w := by kernel_rfl
theorem b1_ok (R : EP) (ρ : Env) (w : World) (h : b1 R (ρ 0) w) : codeP Try.prog (pan R) code (q1 R) ρ w := (b1_eq R ρ w).mp h
/-- What is owed for a call. -/
def run (R : EP) (a0 : Value) (w : World) : Prop := b1 R a0 w
theorem calls (R : EP) (a0 : Value) (w : World) (h : run R a0 w) : Calls Try.prog id #[a0] w R :=
  calls_of_t (f := id) (fn := Try.f99) (c := code) (by kernel_rfl) Try.func99 (by kernel_rfl) (by kernel_rfl) (args := [a0]) (Nat.le_of_ble_eq_true rfl) rfl (b1_ok R (envOf [a0]) w h)
theorem enters : Enters Try.prog id := fun args w => Try.call99 args w
theorem ct {a0 : Value} {w : World} {S : VP} (h : ∀ R : EP, (∀ v w, S v w → R (.returned v) w) → run R a0 w) : Ct Try.prog id #[a0] w S :=
  Ct.intro enters fun R hR => calls R a0 w (h R hR)
attribute [irreducible] b1 run
end slices_Clone_int_int
end Go.Proofs.Ytkacbjhiobnbfaa

/- Shallow programs, written by a program of ours (gen.py) off the translation; each is tied to the code by the kernel. -/
set_option linter.unusedVariables false
set_option maxRecDepth 100000
namespace Go.Proofs.Ytkacbjhiobnbfaa
open Go.Px

/-! ### presage/presageref02.IsTerm -/
namespace ref02_IsTerm
noncomputable def code : Code := bodyOf Try.f151
noncomputable abbrev p1 : Code := dropC 1 code
def b3 (R : EP) (x0 : Value) (w : World) (_r : Tok R := tok R) : Prop :=
  RUN Try.prog (pan R) (Builtin.len_ #[9] 3 #[x0]) w fun v1 w2 =>
  RUN Try.prog (pan R) (bins .geq 3 (.tmp 27) (.const (Go.Value.int Go.IntKind.i64 1)) v1 (Go.Value.int Go.IntKind.i64 1)) w2 fun v3 w4 =>
  SPL v3
  (RUN Try.prog (pan R) (Builtin.len_ #[9] 3 #[x0]) w4 fun v5 w6 =>
  RUN Try.prog (pan R) (bins .leq 3 (.tmp 31) (.const (Go.Value.int Go.IntKind.i64 16)) v5 (Go.Value.int Go.IntKind.i64 16)) w6 fun v7 w8 =>
  R (.returned v7) w8)
  (R (.returned (Go.Value.bool Bool.false)) w4)
abbrev q1 (R : EP) : XP := QX (fun ρ w => R (.returned (ρ 2)) w) (fun ρ w => R (.returned (ρ 2)) w) []
theorem b3_eq (R : EP) (ρ : Env) (w : World) : (b3 R (ρ 0) w) = codeP Try.prog (pan R) (sndC p1) (q1 R) ρ w := by kernel_rfl
theorem b3_ok (R : EP) (ρ : Env) (w : World) (h : b3 R (ρ 0) w) : codeP Try.prog (pan R) (sndC p1) (q1 R) ρ w := (b3_eq R ρ w).mp h
noncomputable abbrev p2 : Code := dropC 1 (fstC p1)
noncomputable abbrev p3 : Code := loopC (blkC p2)
noncomputable abbrev p4 : Code := dropC 1 p3
def b9 (R : EP) (C6 : VP) (x3 : Value) (w : World) (_r : Tok R := tok R) (_C6 : Tok C6 := tok C6) : Prop :=
  RUN Try.prog (pan R) (bins .add 3 (.tmp 8) (.const (Go.Value.int Go.IntKind.i64 1)) x3 (Go.Value.int Go.IntKind.i64 1)) w fun v1 w2 =>
  C6 v1 w2
abbrev q2 (R : EP) (C6 : VP) : XP := QX (fun ρ w => C6 (ρ 3) w) (fun ρ w => R (.returned (ρ 2)) w) [(0, (fun ρ w => b3 R (ρ 0) w))]
theorem b9_eq (R : EP) (C6 : VP) (ρ : Env) (w : World) : (b9 R C6 (ρ 3) w) = codeP Try.prog (pan R) (sndC p4) (q2 R C6) ρ w := by kernel_rfl
theorem b9_ok (R : EP) (C6 : VP) (ρ : Env) (w : World) (h : b9 R C6 (ρ 3) w) : codeP Try.prog (pan R) (sndC p4) (q2 R C6) ρ w := (b9_eq R C6 ρ w).mp h
noncomputable abbrev p5 : Code := blkC (fstC p4)
noncomputable abbrev p6 : Code := dropC 1 p5
def b12 (R : EP) (C6 : VP) (x3 x25 : Value) (w : World) (_r : Tok R := tok R) (_C6 : Tok C6 := tok C6) : Prop :=
  SPL x25
  (R (.returned (Go.Value.bool Bool.false)) w)
  (b9 R C6 x3 w)
abbrev q3 (R : EP) (C6 : VP) : XP := QX (fun ρ w => b9 R C6 (ρ 3) w) (fun ρ w => R (.returned (ρ 2)) w) [(2, (fun ρ w => b9 R C6 (ρ 3) w)), (0, (fun ρ w => b3 R (ρ 0) w))]
theorem b12_eq (R : EP) (C6 : VP) (ρ : Env) (w : World) : (b12 R C6 (ρ 3) (ρ 25) w) = codeP Try.prog (pan R) p6 (q3 R C6) ρ w := by kernel_rfl
theorem b12_ok (R : EP) (C6 : VP) (ρ : Env) (w : World) (h : b12 R C6 (ρ 3) (ρ 25) w) : codeP Try.prog (pan R) p6 (q3 R C6) ρ w := (b12_eq R C6 ρ w).mp h
def b11 (R : EP) (C6 : VP) (x0 x3 : Value) (w : World) (_r : Tok R := tok R) (_C6 : Tok C6 := tok C6) : Prop :=
  RUN Try.prog (pan R) (Instr.index 9 x0 x3) w fun v1 w2 =>
  RUN Try.prog (pan R) (bins .lss 5 (.tmp 12) (.const (Go.Value.int Go.IntKind.u8 32)) v1 (Go.Value.int Go.IntKind.u8 32)) w2 fun v3 w4 =>
  SPL v3
  (b12 R C6 x3 (Go.Value.bool Bool.true) w4)
  (RUN Try.prog (pan R) (Instr.index 9 x0 x3) w4 fun v5 w6 =>
  RUN Try.prog (pan R) (bins .gtr 5 (.tmp 17) (.const (Go.Value.int Go.IntKind.u8 126)) v5 (Go.Value.int Go.IntKind.u8 126)) w6 fun v7 w8 =>
  SPL v7
  (b12 R C6 x3 (Go.Value.bool Bool.true) w8)
  (RUN Try.prog (pan R) (Instr.index 9 x0 x3) w8 fun v9 w10 =>
  RUN Try.prog (pan R) (bins .eql 5 (.tmp 23) (.const (Go.Value.int Go.IntKind.u8 39)) v9 (Go.Value.int Go.IntKind.u8 39)) w10 fun v11 w12 =>
  b12 R C6 x3 v11 w12))
abbrev q4 (R : EP) (C6 : VP) : XP := QX (fun ρ w => b12 R C6 (ρ 3) (ρ 25) w) (fun ρ w => R (.returned (ρ 2)) w) [(2, (fun ρ w => b9 R C6 (ρ 3) w)), (0, (fun ρ w => b3 R (ρ 0) w))]
theorem b11_eq (R : EP) (C6 : VP) (ρ : Env) (w : World) : (b11 R C6 (ρ 0) (ρ 3) w) = codeP Try.prog (pan R) (preC 0 p5) (q4 R C6) ρ w := by kernel_rfl
theorem b11_ok (R : EP) (C6 : VP) (ρ : Env) (w : World) (h : b11 R C6 (ρ 0) (ρ 3) w) : codeP Try.prog (pan R) p5 (q3 R C6) ρ w := by
  have e : appC 0 (preC 0 p5) (dropC 1 p5) = p5 := by kernel_rfl
  rw [← e]
  exact appQ (fun ρ w => b12 R C6 (ρ 3) (ρ 25) w) 0 ((b11_eq R C6 ρ w).mp h) (fun ρ w h => b12_ok R C6 ρ w h)
abbrev q5 (R : EP) (C6 : VP) : XP := QX (fun ρ w => b9 R C6 (ρ 3) w) (fun ρ w => R (.returned (ρ 2)) w) [(0, (fun ρ w => b3 R (ρ 0) w))]
theorem k10_ok (R : EP) (C6 : VP) (ρ : Env) (w : World) (h : b11 R C6 (ρ 0) (ρ 3) w) : codeP Try.prog (pan R) (fstC p4) (q5 R C6) ρ w := by
  have e : Code.block 1 (blkC (fstC p4)) = (fstC p4) := by kernel_rfl
  rw [← e]
  exact blockQ (b11_ok R C6 ρ w h)
theorem k8_ok (R : EP) (C6 : VP) (ρ : Env) (w : World) (h : b11 R C6 (ρ 0) (ρ 3) w) : codeP Try.prog (pan R) p4 (q2 R C6) ρ w := by
  have e : Code.seq (fstC p4) (sndC p4) = p4 := by kernel_rfl
  rw [← e]
  exact seqQ (fun ρ w => b9 R C6 (ρ 3) w) (k10_ok R C6 ρ w h) (fun ρ w h => b9_ok R C6 ρ w h)
def b7 (R : EP) (C6 : VP) (x0 x3 : Value) (w : World) (_r : Tok R := tok R) (_C6 : Tok C6 := tok C6) : Prop :=
  RUN Try.prog (pan R) (Builtin.len_ #[9] 3 #[x0]) w fun v1 w2 =>
  RUN Try.prog (pan R) (bins .lss 3 (.tmp 4) (.tmp 6) x3 v1) w2 fun v3 w4 =>
  SPL v3
  (b11 R C6 x0 x3 w4)
  (b3 R x0 w4)
abbrev q6 (R : EP) (C6 : VP) : XP := QX (fun ρ w => b11 R C6 (ρ 0) (ρ 3) w) (fun ρ w => R (.returned (ρ 2)) w) [(0, (fun ρ w => b3 R (ρ 0) w))]
theorem b7_eq (R : EP) (C6 : VP) (ρ : Env) (w : World) : (b7 R C6 (ρ 0) (ρ 3) w) = codeP Try.prog (pan R) (preC 0 p3) (q6 R C6) ρ w := by kernel_rfl
theorem b7_ok (R : EP) (C6 : VP) (ρ : Env) (w : World) (h : b7 R C6 (ρ 0) (ρ 3) w) : codeP Try.prog (pan R) p3 (q2 R C6) ρ w := by
  have e : appC 0 (preC 0 p3) (dropC 1 p3) = p3 := by kernel_rfl
  rw [← e]
  exact appQ (fun ρ w => b11 R C6 (ρ 0) (ρ 3) w) 0 ((b7_eq R C6 ρ w).mp h) (fun ρ w h => k8_ok R C6 ρ w h)
def l6 (R : EP) (x0 x3 : Value) (w : World) (_r : Tok R := tok R) : Prop :=
  ∃ (J : VP) (μ : Value → World → Nat), J x3 w ∧ ∀ y3 w0, J y3 w0 → b7 R (fun z3 w1 => J z3 w1 ∧ μ z3 w1 < μ y3 w0) x0 y3 w0
abbrev q7 (R : EP) : XP := QX (fun ρ w => b3 R (ρ 0) w) (fun ρ w => R (.returned (ρ 2)) w) [(0, (fun ρ w => b3 R (ρ 0) w))]
theorem l6_ok (R : EP) (ρ : Env) (w : World) (h : l6 R (ρ 0) (ρ 3) w) : codeP Try.prog (pan R) (blkC p2) (q7 R) ρ w := by
  unfold l6 at h
  obtain ⟨J, μ, h0, hr⟩ := h
  have e : Code.loop (loopC (blkC p2)) = (blkC p2) := by kernel_rfl
  rw [← e]
  refine loopQ (fun ρ' w' => J (ρ' 3) w') (fun ρ' w' => μ (ρ' 3) w') h0 fun ρ' w' hA hI => ?_
  have e0 : ρ' 0 = ρ 0 := Agree.at hA 0 (by kernel_rfl)
  have h1 := hr (ρ' 3) w' hI
  rw [← e0] at h1
  exact b7_ok R (fun z3 w1 => J z3 w1 ∧ μ z3 w1 < μ (ρ' 3) w') ρ' w' h1
theorem l6_intro (R : EP) (x0 x3 : Value) (w : World) (J : VP) (μ : Value → World → Nat) (h0 : J x3 w)
    (hr : ∀ y3 w0, J y3 w0 → ∀ C6 : VP, (∀ z3 w1, J z3 w1 → μ z3 w1 < μ y3 w0 → C6 z3 w1) → b7 R C6 x0 y3 w0) : l6 R x0 x3 w := by
  unfold l6
  exact ⟨J, μ, h0, fun y3 w0 hJ => hr y3 w0 hJ _ (fun z3 w1 h1 h2 => ⟨h1, h2⟩)⟩
abbrev q8 (R : EP) : XP := QX (fun ρ w => b3 R (ρ 0) w) (fun ρ w => R (.returned (ρ 2)) w) []
theorem k5_ok (R : EP) (ρ : Env) (w : World) (h : l6 R (ρ 0) (ρ 3) w) : codeP Try.prog (pan R) p2 (q8 R) ρ w := by
  have e : Code.block 0 (blkC p2) = p2 := by kernel_rfl
  rw [← e]
  exact blockQ (l6_ok R ρ w h)
def b4 (R : EP) (x0 : Value) (w : World) (_r : Tok R := tok R) : Prop :=
  l6 R x0 (Go.Value.int Go.IntKind.i64 0) w
abbrev q9 (R : EP) : XP := QX (fun ρ w => l6 R (ρ 0) (ρ 3) w) (fun ρ w => R (.returned (ρ 2)) w) []
theorem b4_eq (R : EP) (ρ : Env) (w : World) : (b4 R (ρ 0) w) = codeP Try.prog (pan R) (preC 0 (fstC p1)) (q9 R) ρ w := by kernel_rfl
theorem b4_ok (R : EP) (ρ : Env) (w : World) (h : b4 R (ρ 0) w) : codeP Try.prog (pan R) (fstC p1) (q8 R) ρ w := by
  have e : appC 0 (preC 0 (fstC p1)) (dropC 1 (fstC p1)) = (fstC p1) := by kernel_rfl
  rw [← e]
  exact appQ (fun ρ w => l6 R (ρ 0) (ρ 3) w) 0 ((b4_eq R ρ w).mp h) (fun ρ w h => k5_ok R ρ w h)
theorem k2_ok (R : EP) (ρ : Env) (w : World) (h : b4 R (ρ 0) w) : codeP Try.prog (pan R) p1 (q1 R) ρ w := by
  have e : Code.seq (fstC p1) (sndC p1) = p1 := by kernel_rfl
  rw [← e]
  exact seqQ (fun ρ w => b3 R (ρ 0) w) (b4_ok R ρ w h) (fun ρ w h => b3_ok R ρ w h)
def b1 (R : EP) (x0 : Value) (w : World) (_r : Tok R := tok R) : Prop :=
  b4 R x0 w
abbrev q10 (R : EP) : XP := QX (fun ρ w => b4 R (ρ 0) w) (fun ρ w => R (.returned (ρ 2)) w) []
theorem b1_eq (R : EP) (ρ : Env) (w : World) : (b1 R (ρ 0) w) = codeP Try.prog (pan R) (preC 0 code) (q10 R) ρ w := by kernel_rfl
theorem b1_ok (R : EP) (ρ : Env) (w : World) (h : b1 R (ρ 0) w) : codeP Try.prog (pan R) code (q1 R) ρ w := by
  have e : appC 0 (preC 0 code) (dropC 1 code) = code := by kernel_rfl
  rw [← e]
  exact appQ (fun ρ w => b4 R (ρ 0) w) 0 ((b1_eq R ρ w).mp h) (fun ρ w h => k2_ok R ρ w h)
/-- What is owed for a call. -/
def run (R : EP) (a0 : Value) (w : World) : Prop := b1 R a0 w
theorem calls (R : EP) (a0 : Value) (w : World) (h : run R a0 w) : Calls Try.prog id #[a0] w R :=
  calls_of_t (f := id) (fn := Try.f151) (c := code) (by kernel_rfl) Try.func151 (by kernel_rfl) (by kernel_rfl) (args := [a0]) (Nat.le_of_ble_eq_true rfl) rfl (b1_ok R (envOf [a0]) w h)
theorem enters : Enters Try.prog id := fun args w => Try.call151 args w
theorem ct {a0 : Value} {w : World} {S : VP} (h : ∀ R : EP, (∀ v w, S v w → R (.returned v) w) → run R a0 w) : Ct Try.prog id #[a0] w S :=
  Ct.intro enters fun R hR => calls R a0 w (h R hR)
attribute [irreducible] b3 b9 b12 b11 b7 l6 b4 b1 run
end ref02_IsTerm

/-! ### presage/presageref02.IsName -/
namespace ref02_IsName
noncomputable def code : Code := bodyOf Try.f152
noncomputable abbrev p1 : Code := dropC 1 code

def b3 (R : EP) (x0 : Value) (w : World) (_r : Tok R := tok R) : Prop :=
  RUN Try.prog (pan R) (Builtin.len_ #[9] 3 #[x0]) w fun v1 w2 =>
  RUN Try.prog (pan R) (bins .geq 3 (.tmp 61) (.const (Go.Value.int Go.IntKind.i64 1)) v1 (Go.Value.int Go.IntKind.i64 1)) w2 fun v3 w4 =>
  SPL v3
  (RUN Try.prog (pan R) (Builtin.len_ #[9] 3 #[x0]) w4 fun v5 w6 =>
  RUN Try.prog (pan R) (bins .leq 3 (.tmp 65) (.const (Go.Value.int Go.IntKind.i64 16)) v5 (Go.Value.int Go.IntKind.i64 16)) w6 fun v7 w8 =>
  R (.returned v7) w8)
  (R (.returned (Go.Value.bool Bool.false)) w4)
abbrev q1 (R : EP) : XP := QX (fun ρ w => R (.returned (ρ 2)) w) (fun ρ w => R (.returned (ρ 2)) w) []
theorem b3_eq (R : EP) (ρ : Env) (w : World) : (b3 R (ρ 0) w) = codeP Try.prog (pan R) (sndC p1) (q1 R) ρ w := by kernel_rfl
theorem b3_ok (R : EP) (ρ : Env) (w : World) (h : b3 R (ρ 0) w) : codeP Try.prog (pan R) (sndC p1) (q1 R) ρ w := (b3_eq R ρ w).mp h
noncomputable abbrev p2 : Code := dropC 1 (fstC p1)
noncomputable abbrev p3 : Code := loopC (blkC p2)
noncomputable abbrev p4 : Code := dropC 1 p3

def b9 (R : EP) (C6 : VP) (x3 : Value) (w : World) (_r : Tok R := tok R) (_C6 : Tok C6 := tok C6) : Prop :=
  RUN Try.prog (pan R) (bins .add 3 (.tmp 10) (.const (Go.Value.int Go.IntKind.i64 1)) x3 (Go.Value.int Go.IntKind.i64 1)) w fun v1 w2 =>
  C6 v1 w2
abbrev q2 (R : EP) (C6 : VP) : XP := QX (fun ρ w => C6 (ρ 3) w) (fun ρ w => R (.returned (ρ 2)) w) [(0, (fun ρ w => b3 R (ρ 0) w))]
theorem b9_eq (R : EP) (C6 : VP) (ρ : Env) (w : World) : (b9 R C6 (ρ 3) w) = codeP Try.prog (pan R) (sndC p4) (q2 R C6) ρ w := by kernel_rfl
theorem b9_ok (R : EP) (C6 : VP) (ρ : Env) (w : World) (h : b9 R C6 (ρ 3) w) : codeP Try.prog (pan R) (sndC p4) (q2 R C6) ρ w := (b9_eq R C6 ρ w).mp h
noncomputable abbrev p5 : Code := blkC (fstC p4)
noncomputable abbrev p6 : Code := dropC 1 p5
noncomputable abbrev p7 : Code := dropC 1 p6
noncomputable abbrev p8 : Code := dropC 1 p7

def b14 (R : EP) (C6 : VP) (x3 x59 : Value) (w : World) (_r : Tok R := tok R) (_C6 : Tok C6 := tok C6) : Prop :=
  SPL x59
  (R (.returned (Go.Value.bool Bool.false)) w)
  (b9 R C6 x3 w)
abbrev q3 (R : EP) (C6 : VP) : XP := QX (fun ρ w => b9 R C6 (ρ 3) w) (fun ρ w => R (.returned (ρ 2)) w) [(2, (fun ρ w => b9 R C6 (ρ 3) w)), (0, (fun ρ w => b3 R (ρ 0) w))]
theorem b14_eq (R : EP) (C6 : VP) (ρ : Env) (w : World) : (b14 R C6 (ρ 3) (ρ 59) w) = codeP Try.prog (pan R) p8 (q3 R C6) ρ w := by kernel_rfl
theorem b14_ok (R : EP) (C6 : VP) (ρ : Env) (w : World) (h : b14 R C6 (ρ 3) (ρ 59) w) : codeP Try.prog (pan R) p8 (q3 R C6) ρ w := (b14_eq R C6 ρ w).mp h

def b13 (R : EP) (C6 : VP) (x3 x4 x5 : Value) (w : World) (_r : Tok R := tok R) (_C6 : Tok C6 := tok C6) : Prop :=
  RUN Try.prog (pan R) (Op.unary .not x4) w fun v1 w2 =>
  SPL v1
  (RUN Try.prog (pan R) (Op.unary .not x5) w2 fun v3 w4 =>
  b14 R C6 x3 v3 w4)
  (b14 R C6 x3 (Go.Value.bool Bool.false) w2)
abbrev q4 (R : EP) (C6 : VP) : XP := QX (fun ρ w => b14 R C6 (ρ 3) (ρ 59) w) (fun ρ w => R (.returned (ρ 2)) w) [(2, (fun ρ w => b9 R C6 (ρ 3) w)), (0, (fun ρ w => b3 R (ρ 0) w))]
theorem b13_eq (R : EP) (C6 : VP) (ρ : Env) (w : World) : (b13 R C6 (ρ 3) (ρ 4) (ρ 5) w) = codeP Try.prog (pan R) (preC 0 p7) (q4 R C6) ρ w := by kernel_rfl
theorem b13_ok (R : EP) (C6 : VP) (ρ : Env) (w : World) (h : b13 R C6 (ρ 3) (ρ 4) (ρ 5) w) : codeP Try.prog (pan R) p7 (q3 R C6) ρ w := by
  have e : appC 0 (preC 0 p7) (dropC 1 p7) = p7 := by kernel_rfl
  rw [← e]
  exact appQ (fun ρ w => b14 R C6 (ρ 3) (ρ 59) w) 0 ((b13_eq R C6 ρ w).mp h) (fun ρ w h => b14_ok R C6 ρ w h)

def b12 (R : EP) (C6 : VP) (x0 x3 x4 : Value) (w : World) (_r : Tok R := tok R) (_C6 : Tok C6 := tok C6) : Prop :=
  RUN Try.prog (pan R) (Instr.index 9 x0 x3) w fun v1 w2 =>
  RUN Try.prog (pan R) (bins .geq 5 (.tmp 42) (.const (Go.Value.int Go.IntKind.u8 48)) v1 (Go.Value.int Go.IntKind.u8 48)) w2 fun v3 w4 =>
  SPL v3
  (RUN Try.prog (pan R) (Instr.index 9 x0 x3) w4 fun v5 w6 =>
  RUN Try.prog (pan R) (bins .leq 5 (.tmp 47) (.const (Go.Value.int Go.IntKind.u8 57)) v5 (Go.Value.int Go.IntKind.u8 57)) w6 fun v7 w8 =>
  SPL v7
  (RUN Try.prog (pan R) (bins .gtr 3 (.tmp 51) (.const (Go.Value.int Go.IntKind.i64 0)) x3 (Go.Value.int Go.IntKind.i64 0)) w8 fun v9 w10 =>
  b13 R C6 x3 x4 v9 w10)
  (b13 R C6 x3 x4 (Go.Value.bool Bool.false) w8))
  (b13 R C6 x3 x4 (Go.Value.bool Bool.false) w4)
abbrev q5 (R : EP) (C6 : VP) : XP := QX (fun ρ w => b13 R C6 (ρ 3) (ρ 4) (ρ 5) w) (fun ρ w => R (.returned (ρ 2)) w) [(2, (fun ρ w => b9 R C6 (ρ 3) w)), (0, (fun ρ w => b3 R (ρ 0) w))]
theorem b12_eq (R : EP) (C6 : VP) (ρ : Env) (w : World) : (b12 R C6 (ρ 0) (ρ 3) (ρ 4) w) = codeP Try.prog (pan R) (preC 0 p6) (q5 R C6) ρ w := by kernel_rfl
theorem b12_ok (R : EP) (C6 : VP) (ρ : Env) (w : World) (h : b12 R C6 (ρ 0) (ρ 3) (ρ 4) w) : codeP Try.prog (pan R) p6 (q3 R C6) ρ w := by
  have e : appC 0 (preC 0 p6) (dropC 1 p6) = p6 := by kernel_rfl
  rw [← e]
  exact appQ (fun ρ w => b13 R C6 (ρ 3) (ρ 4) (ρ 5) w) 0 ((b12_eq R C6 ρ w).mp h) (fun ρ w h => b13_ok R C6 ρ w h)

def b11 (R : EP) (C6 : VP) (x0 x3 : Value) (w : World) (_r : Tok R := tok R) (_C6 : Tok C6 := tok C6) : Prop :=
  RUN Try.prog (pan R) (Instr.index 9 x0 x3) w fun v1 w2 =>
  RUN Try.prog (pan R) (bins .geq 5 (.tmp 14) (.const (Go.Value.int Go.IntKind.u8 65)) v1 (Go.Value.int Go.IntKind.u8 65)) w2 fun v3 w4 =>
  SPL v3
  (RUN Try.prog (pan R) (Instr.index 9 x0 x3) w4 fun v5 w6 =>
  RUN Try.prog (pan R) (bins .leq 5 (.tmp 19) (.const (Go.Value.int Go.IntKind.u8 90)) v5 (Go.Value.int Go.IntKind.u8 90)) w6 fun v7 w8 =>
  SPL v7
  (b12 R C6 x0 x3 (Go.Value.bool Bool.true) w8)
  (RUN Try.prog (pan R) (Instr.index 9 x0 x3) w8 fun v9 w10 =>
  RUN Try.prog (pan R) (bins .geq 5 (.tmp 25) (.const (Go.Value.int Go.IntKind.u8 97)) v9 (Go.Value.int Go.IntKind.u8 97)) w10 fun v11 w12 =>
  SPL v11
  (RUN Try.prog (pan R) (Instr.index 9 x0 x3) w12 fun v13 w14 =>
  RUN Try.prog (pan R) (bins .leq 5 (.tmp 30) (.const (Go.Value.int Go.IntKind.u8 122)) v13 (Go.Value.int Go.IntKind.u8 122)) w14 fun v15 w16 =>
  SPL v15
  (b12 R C6 x0 x3 (Go.Value.bool Bool.true) w16)
  (RUN Try.prog (pan R) (Instr.index 9 x0 x3) w16 fun v17 w18 =>
  RUN Try.prog (pan R) (bins .eql 5 (.tmp 37) (.const (Go.Value.int Go.IntKind.u8 95)) v17 (Go.Value.int Go.IntKind.u8 95)) w18 fun v19 w20 =>
  b12 R C6 x0 x3 v19 w20))
  (RUN Try.prog (pan R) (Instr.index 9 x0 x3) w12 fun v21 w22 =>
  RUN Try.prog (pan R) (bins .eql 5 (.tmp 37) (.const (Go.Value.int Go.IntKind.u8 95)) v21 (Go.Value.int Go.IntKind.u8 95)) w22 fun v23 w24 =>
  b12 R C6 x0 x3 v23 w24)))
  (RUN Try.prog (pan R) (Instr.index 9 x0 x3) w4 fun v25 w26 =>
  RUN Try.prog (pan R) (bins .geq 5 (.tmp 25) (.const (Go.Value.int Go.IntKind.u8 97)) v25 (Go.Value.int Go.IntKind.u8 97)) w26 fun v27 w28 =>
  SPL v27
  (RUN Try.prog (pan R) (Instr.index 9 x0 x3) w28 fun v29 w30 =>
  RUN Try.prog (pan R) (bins .leq 5 (.tmp 30) (.const (Go.Value.int Go.IntKind.u8 122)) v29 (Go.Value.int Go.IntKind.u8 122)) w30 fun v31 w32 =>
  SPL v31
  (b12 R C6 x0 x3 (Go.Value.bool Bool.true) w32)
  (RUN Try.prog (pan R) (Instr.index 9 x0 x3) w32 fun v33 w34 =>
  RUN Try.prog (pan R) (bins .eql 5 (.tmp 37) (.const (Go.Value.int Go.IntKind.u8 95)) v33 (Go.Value.int Go.IntKind.u8 95)) w34 fun v35 w36 =>
  b12 R C6 x0 x3 v35 w36))
  (RUN Try.prog (pan R) (Instr.index 9 x0 x3) w28 fun v37 w38 =>
  RUN Try.prog (pan R) (bins .eql 5 (.tmp 37) (.const (Go.Value.int Go.IntKind.u8 95)) v37 (Go.Value.int Go.IntKind.u8 95)) w38 fun v39 w40 =>
  b12 R C6 x0 x3 v39 w40))
abbrev q6 (R : EP) (C6 : VP) : XP := QX (fun ρ w => b12 R C6 (ρ 0) (ρ 3) (ρ 4) w) (fun ρ w => R (.returned (ρ 2)) w) [(2, (fun ρ w => b9 R C6 (ρ 3) w)), (0, (fun ρ w => b3 R (ρ 0) w))]
theorem b11_eq (R : EP) (C6 : VP) (ρ : Env) (w : World) : (b11 R C6 (ρ 0) (ρ 3) w) = codeP Try.prog (pan R) (preC 0 p5) (q6 R C6) ρ w := by kernel_rfl
theorem b11_ok (R : EP) (C6 : VP) (ρ : Env) (w : World) (h : b11 R C6 (ρ 0) (ρ 3) w) : codeP Try.prog (pan R) p5 (q3 R C6) ρ w := by
  have e : appC 0 (preC 0 p5) (dropC 1 p5) = p5 := by kernel_rfl
  rw [← e]
  exact appQ (fun ρ w => b12 R C6 (ρ 0) (ρ 3) (ρ 4) w) 0 ((b11_eq R C6 ρ w).mp h) (fun ρ w h => b12_ok R C6 ρ w h)
abbrev q7 (R : EP) (C6 : VP) : XP := QX (fun ρ w => b9 R C6 (ρ 3) w) (fun ρ w => R (.returned (ρ 2)) w) [(0, (fun ρ w => b3 R (ρ 0) w))]
theorem k10_ok (R : EP) (C6 : VP) (ρ : Env) (w : World) (h : b11 R C6 (ρ 0) (ρ 3) w) : codeP Try.prog (pan R) (fstC p4) (q7 R C6) ρ w := by
  have e : Code.block 1 (blkC (fstC p4)) = (fstC p4) := by kernel_rfl
  rw [← e]
  exact blockQ (b11_ok R C6 ρ w h)
theorem k8_ok (R : EP) (C6 : VP) (ρ : Env) (w : World) (h : b11 R C6 (ρ 0) (ρ 3) w) : codeP Try.prog (pan R) p4 (q2 R C6) ρ w := by
  have e : Code.seq (fstC p4) (sndC p4) = p4 := by kernel_rfl
  rw [← e]
  exact seqQ (fun ρ w => b9 R C6 (ρ 3) w) (k10_ok R C6 ρ w h) (fun ρ w h => b9_ok R C6 ρ w h)

def b7 (R : EP) (C6 : VP) (x0 x3 : Value) (w : World) (_r : Tok R := tok R) (_C6 : Tok C6 := tok C6) : Prop :=
  RUN Try.prog (pan R) (Builtin.len_ #[9] 3 #[x0]) w fun v1 w2 =>
  RUN Try.prog (pan R) (bins .lss 3 (.tmp 6) (.tmp 8) x3 v1) w2 fun v3 w4 =>
  SPL v3
  (b11 R C6 x0 x3 w4)
  (b3 R x0 w4)
abbrev q8 (R : EP) (C6 : VP) : XP := QX (fun ρ w => b11 R C6 (ρ 0) (ρ 3) w) (fun ρ w => R (.returned (ρ 2)) w) [(0, (fun ρ w => b3 R (ρ 0) w))]
theorem b7_eq (R : EP) (C6 : VP) (ρ : Env) (w : World) : (b7 R C6 (ρ 0) (ρ 3) w) = codeP Try.prog (pan R) (preC 0 p3) (q8 R C6) ρ w := by kernel_rfl
theorem b7_ok (R : EP) (C6 : VP) (ρ : Env) (w : World) (h : b7 R C6 (ρ 0) (ρ 3) w) : codeP Try.prog (pan R) p3 (q2 R C6) ρ w := by
  have e : appC 0 (preC 0 p3) (dropC 1 p3) = p3 := by kernel_rfl
  rw [← e]
  exact appQ (fun ρ w => b11 R C6 (ρ 0) (ρ 3) w) 0 ((b7_eq R C6 ρ w).mp h) (fun ρ w h => k8_ok R C6 ρ w h)

def l6 (R : EP) (x0 x3 : Value) (w : World) (_r : Tok R := tok R) : Prop :=
  ∃ (J : VP) (μ : Value → World → Nat), J x3 w ∧ ∀ y3 w0, J y3 w0 → b7 R (fun z3 w1 => J z3 w1 ∧ μ z3 w1 < μ y3 w0) x0 y3 w0
abbrev q9 (R : EP) : XP := QX (fun ρ w => b3 R (ρ 0) w) (fun ρ w => R (.returned (ρ 2)) w) [(0, (fun ρ w => b3 R (ρ 0) w))]
theorem l6_ok (R : EP) (ρ : Env) (w : World) (h : l6 R (ρ 0) (ρ 3) w) : codeP Try.prog (pan R) (blkC p2) (q9 R) ρ w := by
  unfold l6 at h
  obtain ⟨J, μ, h0, hr⟩ := h
  have e : Code.loop (loopC (blkC p2)) = (blkC p2) := by kernel_rfl
  rw [← e]
  refine loopQ (fun ρ' w' => J (ρ' 3) w') (fun ρ' w' => μ (ρ' 3) w') h0 fun ρ' w' hA hI => ?_
  have e0 : ρ' 0 = ρ 0 := Agree.at hA 0 (by kernel_rfl)
  have h1 := hr (ρ' 3) w' hI
  rw [← e0] at h1
  exact b7_ok R (fun z3 w1 => J z3 w1 ∧ μ z3 w1 < μ (ρ' 3) w') ρ' w' h1
theorem l6_intro (R : EP) (x0 x3 : Value) (w : World) (J : VP) (μ : Value → World → Nat) (h0 : J x3 w)
    (hr : ∀ y3 w0, J y3 w0 → ∀ C6 : VP, (∀ z3 w1, J z3 w1 → μ z3 w1 < μ y3 w0 → C6 z3 w1) → b7 R C6 x0 y3 w0) : l6 R x0 x3 w := by
  unfold l6
  exact ⟨J, μ, h0, fun y3 w0 hJ => hr y3 w0 hJ _ (fun z3 w1 h1 h2 => ⟨h1, h2⟩)⟩
abbrev q10 (R : EP) : XP := QX (fun ρ w => b3 R (ρ 0) w) (fun ρ w => R (.returned (ρ 2)) w) []
theorem k5_ok (R : EP) (ρ : Env) (w : World) (h : l6 R (ρ 0) (ρ 3) w) : codeP Try.prog (pan R) p2 (q10 R) ρ w := by
  have e : Code.block 0 (blkC p2) = p2 := by kernel_rfl
  rw [← e]
  exact blockQ (l6_ok R ρ w h)

def b4 (R : EP) (x0 : Value) (w : World) (_r : Tok R := tok R) : Prop :=
  l6 R x0 (Go.Value.int Go.IntKind.i64 0) w
abbrev q11 (R : EP) : XP := QX (fun ρ w => l6 R (ρ 0) (ρ 3) w) (fun ρ w => R (.returned (ρ 2)) w) []
theorem b4_eq (R : EP) (ρ : Env) (w : World) : (b4 R (ρ 0) w) = codeP Try.prog (pan R) (preC 0 (fstC p1)) (q11 R) ρ w := by kernel_rfl
theorem b4_ok (R : EP) (ρ : Env) (w : World) (h : b4 R (ρ 0) w) : codeP Try.prog (pan R) (fstC p1) (q10 R) ρ w := by
  have e : appC 0 (preC 0 (fstC p1)) (dropC 1 (fstC p1)) = (fstC p1) := by kernel_rfl
  rw [← e]
  exact appQ (fun ρ w => l6 R (ρ 0) (ρ 3) w) 0 ((b4_eq R ρ w).mp h) (fun ρ w h => k5_ok R ρ w h)
theorem k2_ok (R : EP) (ρ : Env) (w : World) (h : b4 R (ρ 0) w) : codeP Try.prog (pan R) p1 (q1 R) ρ w := by
  have e : Code.seq (fstC p1) (sndC p1) = p1 := by kernel_rfl
  rw [← e]
  exact seqQ (fun ρ w => b3 R (ρ 0) w) (b4_ok R ρ w h) (fun ρ w h => b3_ok R ρ w h)

def b1 (R : EP) (x0 : Value) (w : World) (_r : Tok R := tok R) : Prop :=
  b4 R x0 w
abbrev q12 (R : EP) : XP := QX (fun ρ w => b4 R (ρ 0) w) (fun ρ w => R (.returned (ρ 2)) w) []
theorem b1_eq (R : EP) (ρ : Env) (w : World) : (b1 R (ρ 0) w) = codeP Try.prog (pan R) (preC 0 code) (q12 R) ρ w := by kernel_rfl
theorem b1_ok (R : EP) (ρ : Env) (w : World) (h : b1 R (ρ 0) w) : codeP Try.prog (pan R) code (q1 R) ρ w := by
  have e : appC 0 (preC 0 code) (dropC 1 code) = code := by kernel_rfl
  rw [← e]
  exact appQ (fun ρ w => b4 R (ρ 0) w) 0 ((b1_eq R ρ w).mp h) (fun ρ w h => k2_ok R ρ w h)
/-- What is owed for a call. -/
def run (R : EP) (a0 : Value) (w : World) : Prop := b1 R a0 w
theorem calls (R : EP) (a0 : Value) (w : World) (h : run R a0 w) : Calls Try.prog id #[a0] w R :=
  calls_of_t (f := id) (fn := Try.f152) (c := code) (by kernel_rfl) Try.func152 (by kernel_rfl) (by kernel_rfl) (args := [a0]) (Nat.le_of_ble_eq_true rfl) rfl (b1_ok R (envOf [a0]) w h)
theorem enters : Enters Try.prog id := fun args w => Try.call152 args w
theorem ct {a0 : Value} {w : World} {S : VP} (h : ∀ R : EP, (∀ v w, S v w → R (.returned v) w) → run R a0 w) : Ct Try.prog id #[a0] w S :=
  Ct.intro enters fun R hR => calls R a0 w (h R hR)
attribute [irreducible] b3 b9 b14 b13 b12 b11 b7 l6 b4 b1 run
end ref02_IsName

/-! ### presage/presageref02.SameInts -/
namespace ref02_SameInts
noncomputable def code : Code := bodyOf Try.f75
noncomputable abbrev p1 : Code := dropC 2 code

def b3 (R : EP) (w : World) (_r : Tok R := tok R) : Prop :=
  R (.returned (Go.Value.bool Bool.true)) w
abbrev q1 (R : EP) : XP := QX (fun ρ w => R (.returned (ρ 4)) w) (fun ρ w => R (.returned (ρ 4)) w) []
theorem b3_eq (R : EP) (ρ : Env) (w : World) : (b3 R w) = codeP Try.prog (pan R) (sndC p1) (q1 R) ρ w := by kernel_rfl
theorem b3_ok (R : EP) (ρ : Env) (w : World) (h : b3 R w) : codeP Try.prog (pan R) (sndC p1) (q1 R) ρ w := (b3_eq R ρ w).mp h
noncomputable abbrev p2 : Code := dropC 1 (fstC p1)
noncomputable abbrev p3 : Code := loopC (blkC p2)
def b7 (R : EP) (C6 : VP) (x0 x1 x5 : Value) (w : World) (_r : Tok R := tok R) (_C6 : Tok C6 := tok C6) : Prop :=
  RUN Try.prog (pan R) (Builtin.len_ #[24] 3 #[x0]) w fun v1 w2 =>
  RUN Try.prog (pan R) (bins .lss 3 (.tmp 11) (.tmp 13) x5 v1) w2 fun v3 w4 =>
  SPL v3
  (PUR Try.prog (Instr.indexAt 24 x0 x5) fun v5 =>
  LD Try.prog (Instr.loadAt 3 v5) (World.drew w4) fun v6 =>
  PUR Try.prog (Instr.indexAt 24 x1 x5) fun v7 =>
  LD Try.prog (Instr.loadAt 3 v7) (World.drew w4) fun v8 =>
  PUR Try.prog (bins .neq 3 (.tmp 20) (.tmp 24) v6 v8) fun v9 =>
  SPL v9
  (R (.returned (Go.Value.bool Bool.false)) (World.drew w4))
  (RUN Try.prog (pan R) (bins .add 3 (.tmp 15) (.const (Go.Value.int Go.IntKind.i64 1)) x5 (Go.Value.int Go.IntKind.i64 1)) (World.drew w4) fun v10 w11 =>
  C6 v10 w11))
  (b3 R w4)
abbrev q2 (R : EP) (C6 : VP) : XP := QX (fun ρ w => C6 (ρ 5) w) (fun ρ w => R (.returned (ρ 4)) w) [(0, (fun ρ w => b3 R  w))]
theorem b7_eq (R : EP) (C6 : VP) (ρ : Env) (w : World) : (b7 R C6 (ρ 0) (ρ 1) (ρ 5) w) = codeP Try.prog (pan R) p3 (q2 R C6) ρ w := by kernel_rfl
theorem b7_ok (R : EP) (C6 : VP) (ρ : Env) (w : World) (h : b7 R C6 (ρ 0) (ρ 1) (ρ 5) w) : codeP Try.prog (pan R) p3 (q2 R C6) ρ w := (b7_eq R C6 ρ w).mp h
def l6 (R : EP) (x0 x1 x5 : Value) (w : World) (_r : Tok R := tok R) : Prop :=
  ∃ (J : VP) (μ : Value → World → Nat), J x5 w ∧ ∀ y5 w0, J y5 w0 → b7 R (fun z5 w1 => J z5 w1 ∧ μ z5 w1 < μ y5 w0) x0 x1 y5 w0
abbrev q3 (R : EP) : XP := QX (fun ρ w => b3 R  w) (fun ρ w => R (.returned (ρ 4)) w) [(0, (fun ρ w => b3 R  w))]
theorem l6_ok (R : EP) (ρ : Env) (w : World) (h : l6 R (ρ 0) (ρ 1) (ρ 5) w) : codeP Try.prog (pan R) (blkC p2) (q3 R) ρ w := by
  unfold l6 at h
  obtain ⟨J, μ, h0, hr⟩ := h
  have e : Code.loop (loopC (blkC p2)) = (blkC p2) := by kernel_rfl
  rw [← e]
  refine loopQ (fun ρ' w' => J (ρ' 5) w') (fun ρ' w' => μ (ρ' 5) w') h0 fun ρ' w' hA hI => ?_
  have e0 : ρ' 0 = ρ 0 := Agree.at hA 0 (by kernel_rfl)
  have e1 : ρ' 1 = ρ 1 := Agree.at hA 1 (by kernel_rfl)
  have h1 := hr (ρ' 5) w' hI
  rw [← e0, ← e1] at h1
  exact b7_ok R (fun z5 w1 => J z5 w1 ∧ μ z5 w1 < μ (ρ' 5) w') ρ' w' h1
theorem l6_intro (R : EP) (x0 x1 x5 : Value) (w : World) (J : VP) (μ : Value → World → Nat) (h0 : J x5 w)
    (hr : ∀ y5 w0, J y5 w0 → ∀ C6 : VP, (∀ z5 w1, J z5 w1 → μ z5 w1 < μ y5 w0 → C6 z5 w1) → b7 R C6 x0 x1 y5 w0) : l6 R x0 x1 x5 w := by
  unfold l6
  exact ⟨J, μ, h0, fun y5 w0 hJ => hr y5 w0 hJ _ (fun z5 w1 h1 h2 => ⟨h1, h2⟩)⟩
abbrev q4 (R : EP) : XP := QX (fun ρ w => b3 R  w) (fun ρ w => R (.returned (ρ 4)) w) []
theorem k5_ok (R : EP) (ρ : Env) (w : World) (h : l6 R (ρ 0) (ρ 1) (ρ 5) w) : codeP Try.prog (pan R) p2 (q4 R) ρ w := by
  have e : Code.block 0 (blkC p2) = p2 := by kernel_rfl
  rw [← e]
  exact blockQ (l6_ok R ρ w h)
def b4 (R : EP) (x0 x1 : Value) (w : World) (_r : Tok R := tok R) : Prop :=
  l6 R x0 x1 (Go.Value.int Go.IntKind.i64 0) w
abbrev q5 (R : EP) : XP := QX (fun ρ w => l6 R (ρ 0) (ρ 1) (ρ 5) w) (fun ρ w => R (.returned (ρ 4)) w) []
theorem b4_eq (R : EP) (ρ : Env) (w : World) : (b4 R (ρ 0) (ρ 1) w) = codeP Try.prog (pan R) (preC 0 (fstC p1)) (q5 R) ρ w := by kernel_rfl
theorem b4_ok (R : EP) (ρ : Env) (w : World) (h : b4 R (ρ 0) (ρ 1) w) : codeP Try.prog (pan R) (fstC p1) (q4 R) ρ w := by
  have e : appC 0 (preC 0 (fstC p1)) (dropC 1 (fstC p1)) = (fstC p1) := by kernel_rfl
  rw [← e]
  exact appQ (fun ρ w => l6 R (ρ 0) (ρ 1) (ρ 5) w) 0 ((b4_eq R ρ w).mp h) (fun ρ w h => k5_ok R ρ w h)
theorem k2_ok (R : EP) (ρ : Env) (w : World) (h : b4 R (ρ 0) (ρ 1) w) : codeP Try.prog (pan R) p1 (q1 R) ρ w := by
  have e : Code.seq (fstC p1) (sndC p1) = p1 := by kernel_rfl
  rw [← e]
  exact seqQ (fun ρ w => b3 R  w) (b4_ok R ρ w h) (fun ρ w h => b3_ok R ρ w h)
def b1 (R : EP) (x0 x1 : Value) (w : World) (_r : Tok R := tok R) : Prop :=
  RUN Try.prog (pan R) (Builtin.len_ #[24] 3 #[x0]) w fun v1 w2 =>
  RUN Try.prog (pan R) (Builtin.len_ #[24] 3 #[x1]) w2 fun v3 w4 =>
  RUN Try.prog (pan R) (bins .neq 3 (.tmp 7) (.tmp 9) v1 v3) w4 fun v5 w6 =>
  SPL v5
  (R (.returned (Go.Value.bool Bool.false)) w6)
  (b4 R x0 x1 w6)
abbrev q6 (R : EP) : XP := QX (fun ρ w => b4 R (ρ 0) (ρ 1) w) (fun ρ w => R (.returned (ρ 4)) w) []
theorem b1_eq (R : EP) (ρ : Env) (w : World) : (b1 R (ρ 0) (ρ 1) w) = codeP Try.prog (pan R) (preC 1 code) (q6 R) ρ w := by kernel_rfl
theorem b1_ok (R : EP) (ρ : Env) (w : World) (h : b1 R (ρ 0) (ρ 1) w) : codeP Try.prog (pan R) code (q1 R) ρ w := by
  have e : appC 1 (preC 1 code) (dropC 2 code) = code := by kernel_rfl
  rw [← e]
  exact appQ (fun ρ w => b4 R (ρ 0) (ρ 1) w) 1 ((b1_eq R ρ w).mp h) (fun ρ w h => k2_ok R ρ w h)
/-- What is owed for a call. -/
def run (R : EP) (a0 a1 : Value) (w : World) : Prop := b1 R a0 a1 w
theorem calls (R : EP) (a0 a1 : Value) (w : World) (h : run R a0 a1 w) : Calls Try.prog id #[a0, a1] w R :=
  calls_of_t (f := id) (fn := Try.f75) (c := code) (by kernel_rfl) Try.func75 (by kernel_rfl) (by kernel_rfl) (args := [a0, a1]) (Nat.le_of_ble_eq_true rfl) rfl (b1_ok R (envOf [a0, a1]) w h)
theorem enters : Enters Try.prog id := fun args w => Try.call75 args w
theorem ct {a0 a1 : Value} {w : World} {S : VP} (h : ∀ R : EP, (∀ v w, S v w → R (.returned v) w) → run R a0 a1 w) : Ct Try.prog id #[a0, a1] w S :=
  Ct.intro enters fun R hR => calls R a0 a1 w (h R hR)
attribute [irreducible] b3 b7 l6 b4 b1 run
end ref02_SameInts
end Go.Proofs.Ytkacbjhiobnbfaa

