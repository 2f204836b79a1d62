/-
  Texts of this claim: T02Ids, TBS.
-/
import Derived.Test.YtckbgeedlobfaaaDoorProg
import Derived.Test.YtckbgeedlobfaaaDoorY02
set_option linter.unusedVariables false
set_option maxRecDepth 100000
/- The functions' numbers, by name. -/
namespace Go.Proofs.YtckbgeedlobfaaaDoor
abbrev main_main.id:FuncId:=0
abbrev gosem_cut.id:FuncId:=1
abbrev gosem_cut_init.id:FuncId:=2
abbrev law04_SpecReads.id:FuncId:=3
abbrev law04_SpecSpread.id:FuncId:=4
abbrev law04_SpecBegins.id:FuncId:=5
abbrev law04_SpecLong.id:FuncId:=6
abbrev law04_SpecRows.id:FuncId:=7
abbrev law04_SpecQuotes.id:FuncId:=8
abbrev law04_SpecHeads.id:FuncId:=9
abbrev law04_SpecPlain.id:FuncId:=10
abbrev law04_awake.id:FuncId:=11
abbrev spec_Read.id:FuncId:=12
abbrev ref04_Read.id:FuncId:=13
abbrev law04_same.id:FuncId:=14
abbrev spec_Bad.id:FuncId:=15
abbrev ref04_Bad.id:FuncId:=16
abbrev ref03_All.id:FuncId:=17
abbrev law04_gap.id:FuncId:=18
abbrev law04_written.id:FuncId:=19
abbrev ref02_Same.id:FuncId:=20
abbrev law04_good.id:FuncId:=21
abbrev law04_joined.id:FuncId:=22
abbrev law04_alike.id:FuncId:=23
abbrev gram_Valid.id:FuncId:=24
abbrev spec_read.id:FuncId:=25
abbrev spec_Read_1.id:FuncId:=26
abbrev gram_New.id:FuncId:=27
abbrev spec_maker_all.id:FuncId:=28
abbrev gram_Builder_Grammar.id:FuncId:=29
abbrev ref04_Take.id:FuncId:=30
abbrev ref04_Text_number.id:FuncId:=31
abbrev ref04_Text_grammar.id:FuncId:=32
abbrev ref02_Copy.id:FuncId:=33
abbrev ref03_Skip.id:FuncId:=34
abbrev ref03_One.id:FuncId:=35
abbrev ref02_SameInts.id:FuncId:=36
abbrev gram_symbols.id:FuncId:=37
abbrev gram_productions.id:FuncId:=38
abbrev slices_IsSorted_int_int.id:FuncId:=39
abbrev scan_Each.id:FuncId:=40
abbrev scan_Words.id:FuncId:=41
abbrev spec_read_1.id:FuncId:=42
abbrev spec_reader_text.id:FuncId:=43
abbrev spec_enough.id:FuncId:=44
abbrev gram_Builder_Term.id:FuncId:=45
abbrev gram_Builder_Level.id:FuncId:=46
abbrev gram_Builder_Non.id:FuncId:=47
abbrev spec_maker_symbol.id:FuncId:=48
abbrev gram_Builder_Rule.id:FuncId:=49
abbrev gram_Builder_Grade.id:FuncId:=50
abbrev gram_Builder_Start.id:FuncId:=51
abbrev slices_Clone_int_int.id:FuncId:=52
abbrev gram_names_size.id:FuncId:=53
abbrev ref04_Text_word.id:FuncId:=54
abbrev ref04_has.id:FuncId:=55
abbrev ref04_Text_isNon.id:FuncId:=56
abbrev ref04_Text_term.id:FuncId:=57
abbrev ref04_Text_non.id:FuncId:=58
abbrev ref04_Text_symbol.id:FuncId:=59
abbrev ref03_letter.id:FuncId:=60
abbrev ref03_inner.id:FuncId:=61
abbrev ref03_begun.id:FuncId:=62
abbrev gram_isTerm.id:FuncId:=63
abbrev gram_unlike.id:FuncId:=64
abbrev slices_ContainsFunc_string_string.id:FuncId:=65
abbrev gram_symbols_1.id:FuncId:=66
abbrev gram_isName.id:FuncId:=67
abbrev slices_Contains_int_int.id:FuncId:=68
abbrev cmp_Less_int.id:FuncId:=69
abbrev scan_Each_1.id:FuncId:=70
abbrev scan_scanner_each.id:FuncId:=71
abbrev scan_Words_1.id:FuncId:=72
abbrev spec_reader_now.id:FuncId:=73
abbrev spec_reader_header.id:FuncId:=74
abbrev spec_reader_rule.id:FuncId:=75
abbrev spec_reader_fail.id:FuncId:=76
abbrev gram_names_find.id:FuncId:=77
abbrev gram_names_intern.id:FuncId:=78
abbrev gram_Builder_isTermHandle.id:FuncId:=79
abbrev gram_Builder_isNonHandle.id:FuncId:=80
abbrev slices_ContainsFunc_int_int.id:FuncId:=81
abbrev gram_Builder_Rule_1.id:FuncId:=82
abbrev gram_Builder_Grade_1.id:FuncId:=83
abbrev ref04_Text_header.id:FuncId:=84
abbrev ref04_Text_begin.id:FuncId:=85
abbrev ref04_Text_listed.id:FuncId:=86
abbrev ref04_Text_another.id:FuncId:=87
abbrev ref04_Text_within.id:FuncId:=88
abbrev ref03_Orders.id:FuncId:=89
abbrev strings_IndexFunc.id:FuncId:=90
abbrev gram_isTerm_1.id:FuncId:=91
abbrev slices_IndexFunc_string_string.id:FuncId:=92
abbrev slices_Index_int_int.id:FuncId:=93
abbrev cmp_isNaN_int.id:FuncId:=94
abbrev scan_scanner_skip.id:FuncId:=95
abbrev scan_scanner_next.id:FuncId:=96
abbrev spec_reader_name.id:FuncId:=97
abbrev spec_reader_need.id:FuncId:=98
abbrev spec_reader_isT.id:FuncId:=99
abbrev spec_reader_is.id:FuncId:=100
abbrev strings_Clone.id:FuncId:=101
abbrev slices_IndexFunc_int_int.id:FuncId:=102
abbrev strings_indexFunc.id:FuncId:=103
abbrev strings_IndexByte.id:FuncId:=104
abbrev scan_scanner_order.id:FuncId:=105
abbrev slices_Contains_string_string.id:FuncId:=106
abbrev scan_scanner_run.id:FuncId:=107
abbrev scan_plain.id:FuncId:=108
abbrev scan_scanner_sees.id:FuncId:=109
abbrev scan_scanner_next_1.id:FuncId:=110
abbrev scan_letter.id:FuncId:=111
abbrev scan_inner.id:FuncId:=112
abbrev internal_stringslite_Clone.id:FuncId:=113
abbrev internal_stringslite_IndexByte.id:FuncId:=114
abbrev scan_scanner_order_1.id:FuncId:=115
abbrev strings_HasPrefix.id:FuncId:=116
abbrev slices_Index_string_string.id:FuncId:=117
abbrev internal_bytealg_IndexByteString.id:FuncId:=118
abbrev internal_stringslite_HasPrefix.id:FuncId:=119
abbrev runtime_boundsError_Error.id:FuncId:=120
abbrev runtime_boundsError_RuntimeError.id:FuncId:=121
abbrev runtime_errorString_Error.id:FuncId:=122
abbrev runtime_errorString_RuntimeError.id:FuncId:=123
abbrev runtime_plainError_Error.id:FuncId:=124
abbrev runtime_plainError_RuntimeError.id:FuncId:=125
abbrev runtime_errorAddressString_Error.id:FuncId:=126
abbrev runtime_errorAddressString_RuntimeError.id:FuncId:=127
abbrev runtime_TypeAssertionError_Error.id:FuncId:=128
abbrev runtime_TypeAssertionError_RuntimeError.id:FuncId:=129
abbrev runtime_PanicNilError_Error.id:FuncId:=130
abbrev runtime_PanicNilError_RuntimeError.id:FuncId:=131
abbrev internal_abi_Type_Align.id:FuncId:=132
abbrev internal_runtime_maps_unhashableTypeError_Error.id:FuncId:=133
abbrev internal_runtime_maps_unhashableTypeError_RuntimeError.id:FuncId:=134
abbrev api_Errno_Error.id:FuncId:=135
abbrev internal_abi_Kind_String.id:FuncId:=136
abbrev var_s_door_gosem_cut_vars_holds_initialisers_alone_see_the_manifest_s_row_cutvarsword_look_11_test_files_too.id:FuncId:=137
abbrev var_s_door_scan_orders_is_laid_by_its_own_initialiser_plain_data_by_the_wider_look_data_2.id:FuncId:=138
abbrev var_s_door_scan_orders_was_passed_by_the_deep_look_deep_1.id:FuncId:=139
abbrev var_s_door_the_look_of_gosem_cut_vars_went_over_the_folder_that_the_caller_named_as_the_repository_s_root_look_11.id:FuncId:=140
abbrev gosem_cut_vars.id:FuncId:=141
end Go.Proofs.YtckbgeedlobfaaaDoor

/- Shallow programs, written by a program of ours (gen.py) off the translation; each is tied to the code by the kernel. -/
namespace Go.Proofs.YtckbgeedlobfaaaDoor
open Go.Px Tryd Instr

/-! ### presage/spec.Bad -/
namespace spec_Bad
noncomputable def code:Code:=bodyOf f15
def b1_1 (R:EP) (v1:Value) (w2:World) (_r:Tok R:=tok R):Prop :=
 RUN prog R (extract v1 0) w2 fun v3 w4 =>
 RUN prog R (extract v1 1) w4 fun v5 w6 =>
 R (.returned v5) w6
def b1 (R:EP) (x0:Value) (w:World) (_r:Tok R:=tok R):Prop :=
 CALL prog R spec_read.id #[x0] w fun v1 w2 =>
 b1_1 R v1 w2
abbrev r0 (R:EP) (z:Env) (w:World):Prop:=R (.returned (z 2)) w
abbrev q1 (R:EP):XP:=QX (r0 R) (r0 R) []
theorem b1_ok (R:EP):TI prog R code (q1 R) fun z w=>b1 R (z 0) w:=ofT
def run (R:EP) (a0:Value) (w:World):Prop:=b1 R a0 w
theorem calls (R:EP) (a0:Value) (w:World) (h:run R a0 w):Calls prog id #[a0] w R:=cls_t func15 [a0] (b1_ok R _ w h)
theorem enters:Enters prog id:=fun args w=>call15 args w
theorem ct {a0:Value} {w:World} {S:VP} (h:∀R:EP,(∀v w,S v w→R (.returned v) w)→run R a0 w):Ct prog id #[a0] w S :=
 Ct.intro enters fun R hR=>calls R a0 w (h R hR)
attribute [irreducible,go_sem] b1_1 b1 run
end spec_Bad

/-! ### (*presage/spec.maker).all -/
namespace spec_maker_all
noncomputable def code:Code:=bodyOf f28
noncomputable abbrev p1:Code:=dropC 1 code
noncomputable abbrev p2:Code:=sndC (sndC p1)
def b4_1 (R:EP) (v14 v15 v25:Value) (w26:World) (_r:Tok R:=tok R):Prop :=
 Sem.run prog (loadAt 61 v14) w26 = .ok v15 w26∧(PUR prog (extract v25 0) fun v27 =>
 PUR prog (extract v25 1) fun v28 =>
 CALL prog R spec_enough.id #[v27,v28] w26 fun v29 w30 =>
 Sem.run prog (loadAt 61 v14) w30 = .ok v15 w30∧(CALL prog R gram_Builder_Start.id #[v15,v29] w30 fun v31 w32 =>
 R (.returned (.tuple #[])) w32))
def b4_2 (R:EP) (x0:Value) (w12:World) (_r:Tok R:=tok R):Prop :=
 NILC x0 fun v13 =>
 PUR prog (fieldAt 64 v13 0) fun v14 =>
 LD prog (loadAt 61 v14) (World.drew w12) fun v15 =>
 NILC x0 fun v16 =>
 PUR prog (fieldAt 64 v16 0) fun v17 =>
 LD prog (loadAt 61 v17) (World.drew w12) fun v18 =>
 NILC x0 fun v19 =>
 PUR prog (fieldAt 64 v19 1) fun v20 =>
 LD prog (loadAt 56 v20) (World.drew w12) fun v21 =>
 NILC v21 fun v22 =>
 PUR prog (fieldAt 87 v22 5) fun v23 =>
 LD prog (loadAt 9 v23) (World.drew w12) fun v24 =>
 CALL prog R gram_Builder_Non.id #[v18,v24] (World.drew w12) fun v25 w26 =>
 b4_1 R v14 v15 v25 w26

def b4 (R:EP) (x0:Value) (w:World) (_r:Tok R:=tok R):Prop :=
 NILC x0 fun v1 =>
 RUN prog R (fieldAt 64 v1 1) w fun v2 w3 =>
 RUN prog R (loadAt 56 v2) w3 fun v4 w5 =>
 NILC v4 fun v6 =>
 RUN prog R (fieldAt 87 v6 5) w5 fun v7 w8 =>
 RUN prog R (loadAt 9 v7) w8 fun v9 w10 =>
 RUN prog R (bins .neq 9 (.tmp 160) (.const (Value.string ⟨#[]⟩)) v9 (Value.string ⟨#[]⟩)) w10 fun v11 w12 =>
 SPL v11
 (b4_2 R x0 w12)
 (R (.returned (.tuple #[])) w12)
abbrev r0 (R:EP) (z:Env) (w:World):Prop:=R (.returned (.tuple #[])) w
abbrev q1 (R:EP):XP:=QX (r0 R) (r0 R) []
theorem b4_ok (R:EP):TI prog R p2 (q1 R) fun z w=>b4 R (z 0) w:=ofT
noncomputable abbrev p3:Code:=fstC (sndC p1)
noncomputable abbrev p4:Code:=dropC 1 p3
noncomputable abbrev p5:Code:=loopC (blkC p4)
noncomputable abbrev p6:Code:=dropC 2 p5

def b10 (R:EP) (C7:VP) (x84:Value) (w:World) (_r:Tok R:=tok R) (_C7:Tok C7:=tok C7):Prop :=
 RUN prog R (bins .add 3 (.tmp 84) (.const (Value.int .i64 1)) x84 (Value.int .i64 1)) w fun v1 w2 =>
 C7 v1 w2
abbrev q2 (R:EP) (C7:VP):XP:=QX (fun z w=>C7 (z 84) w) (r0 R) [(12,(fun z w=>b4 R (z 0) w))]
theorem b10_ok (R:EP) (C7:VP):TI prog R (sndC p6) (q2 R C7) fun z w=>b10 R C7 (z 84) w:=ofT
noncomputable abbrev p7:Code:=blkC (fstC p6)
noncomputable abbrev p8:Code:=dropC 3 p7
noncomputable abbrev p9:Code:=dropC 2 (sndC p8)
def b15_1 (R:EP) (C7:VP) (x0 x17 x84:Value) (w4:World) (_r:Tok R:=tok R) (_C7:Tok C7:=tok C7):Prop :=
 NILC x0 fun v5 =>
 RUN prog R (fieldAt 64 v5 0) w4 fun v6 w7 =>
 RUN prog R (loadAt 61 v6) w7 fun v8 w9 =>
 RUN prog R (buildSlice 25 1 #[(0,x17)]) w9 fun v10 w11 =>
 CALL prog R gram_Builder_Grade.id #[v8,(Value.int .i64 0),v10] w11 fun v12 w13 =>
 b10 R C7 x84 w13

def b15 (R:EP) (C7:VP) (x0 x12 x17 x84:Value) (w:World) (_r:Tok R:=tok R) (_C7:Tok C7:=tok C7):Prop :=
 RUN prog R (fieldAt 112 x12 3) w fun v1 w2 =>
 RUN prog R (loadAt 4 v1) w2 fun v3 w4 =>
 SPL v3
 (b15_1 R C7 x0 x17 x84 w4)
 (b10 R C7 x84 w4)
abbrev q3 (R:EP) (C7:VP):XP:=QX (fun z w=>b10 R C7 (z 84) w) (r0 R) [(14,(fun z w=>b10 R C7 (z 84) w)),(12,(fun z w=>b4 R (z 0) w))]
theorem b15_ok (R:EP) (C7:VP):TI prog R p9 (q3 R C7) fun z w=>b15 R C7 (z 0) (z 12) (z 17) (z 84) w:=ofT
def b14_1 (R:EP) (C7:VP) (x0 x2 x12 x84 v12 v21 v22 v32:Value) (w33:World) (_r:Tok R:=tok R) (_C7:Tok C7:=tok C7):Prop :=
 Sem.run prog (loadAt 61 v21) w33 = .ok v22 w33∧(LD prog (lookup 104 x2 v32 false) w33 fun v34 =>
 RUN prog R (buildSlice 25 1 #[(0,v12)]) w33 fun v35 w36 =>
 Sem.run prog (lookup 104 x2 v32 false) w36 = .ok v34 w36∧(Sem.run prog (loadAt 61 v21) w36 = .ok v22 w36∧(CALL prog R gram_Builder_Grade.id #[v22,v34,v35] w36 fun v37 w38 =>
 b15 R C7 x0 x12 v12 x84 w38)))
def b14_2 (R:EP) (C7:VP) (x0 x2 x12 x84 v12 v21 v22 v39 v41:Value) (w42:World) (_r:Tok R:=tok R) (_C7:Tok C7:=tok C7):Prop :=
 Sem.run prog (loadAt 61 v21) w42 = .ok v22 w42∧(LD prog (lookup 104 x2 v41 false) w42 fun v43 =>
 CALL prog R gram_Builder_Grade.id #[v22,v43,v39] w42 fun v44 w45 =>
 b15 R C7 x0 x12 v12 x84 w45)
def b14_3 (R:EP) (C7:VP) (x0 x2 x12 x84 v12 v21 v22 v28:Value) (w29:World) (_r:Tok R:=tok R) (_C7:Tok C7:=tok C7):Prop :=
 Sem.run prog (loadAt 61 v21) w29 = .ok v22 w29∧(PUR prog (extract v28 0) fun v30 =>
 PUR prog (extract v28 1) fun v31 =>
 (CALL prog R spec_enough.id #[v30,v31] w29 fun v32 w33 =>
 b14_1 R C7 x0 x2 x12 x84 v12 v21 v22 v32 w33) ∧
 (RUN prog R (buildSlice 25 1 #[(0,v12)]) w29 fun v39 w40 =>
 Sem.run prog (loadAt 61 v21) w40 = .ok v22 w40∧(CALL prog R spec_enough.id #[v30,v31] w40 fun v41 w42 =>
 b14_2 R C7 x0 x2 x12 x84 v12 v21 v22 v39 v41 w42)))
def b14_4 (R:EP) (C7:VP) (x0 x2 x12 x84 v12 v21 v22 v46 v52:Value) (w53:World) (_r:Tok R:=tok R) (_C7:Tok C7:=tok C7):Prop :=
 Sem.run prog (loadAt 61 v21) w53 = .ok v22 w53∧(LD prog (lookup 104 x2 v52 false) w53 fun v54 =>
 CALL prog R gram_Builder_Grade.id #[v22,v54,v46] w53 fun v55 w56 =>
 b15 R C7 x0 x12 v12 x84 w56)
def b14_5 (R:EP) (C7:VP) (x0 x2 x12 x84 v12 v21 v22 v46 v48:Value) (w49:World) (_r:Tok R:=tok R) (_C7:Tok C7:=tok C7):Prop :=
 Sem.run prog (loadAt 61 v21) w49 = .ok v22 w49∧(PUR prog (extract v48 0) fun v50 =>
 PUR prog (extract v48 1) fun v51 =>
 CALL prog R spec_enough.id #[v50,v51] w49 fun v52 w53 =>
 b14_4 R C7 x0 x2 x12 x84 v12 v21 v22 v46 v52 w53)
def b14_6 (R:EP) (C7:VP) (x0 x2 x12 x84 v12:Value) (w19:World) (_r:Tok R:=tok R) (_C7:Tok C7:=tok C7):Prop :=
 NILC x0 fun v20 =>
 PUR prog (fieldAt 64 v20 0) fun v21 =>
 LD prog (loadAt 61 v21) (World.drew w19) fun v22 =>
 NILC x0 fun v23 =>
 PUR prog (fieldAt 64 v23 0) fun v24 =>
 LD prog (loadAt 61 v24) (World.drew w19) fun v25 =>
 PUR prog (fieldAt 112 x12 2) fun v26 =>
 LD prog (loadAt 9 v26) (World.drew w19) fun v27 =>
 (CALL prog R gram_Builder_Term.id #[v25,v27] (World.drew w19) fun v28 w29 =>
 b14_3 R C7 x0 x2 x12 x84 v12 v21 v22 v28 w29) ∧
 (RUN prog R (buildSlice 25 1 #[(0,v12)]) (World.drew w19) fun v46 w47 =>
 Sem.run prog (loadAt 9 v26) w47 = .ok v27 w47∧(Sem.run prog (loadAt 61 v24) w47 = .ok v25 w47∧(Sem.run prog (loadAt 61 v21) w47 = .ok v22 w47∧(CALL prog R gram_Builder_Term.id #[v25,v27] w47 fun v48 w49 =>
 b14_5 R C7 x0 x2 x12 x84 v12 v21 v22 v46 v48 w49))))
def b14_7 (R:EP) (C7:VP) (x0 x2 x12 x84 v12:Value) (w13:World) (_r:Tok R:=tok R) (_C7:Tok C7:=tok C7):Prop :=
 RUN prog R (fieldAt 112 x12 2) w13 fun v14 w15 =>
 RUN prog R (loadAt 9 v14) w15 fun v16 w17 =>
 RUN prog R (bins .neq 9 (.tmp 123) (.const (Value.string ⟨#[]⟩)) v16 (Value.string ⟨#[]⟩)) w17 fun v18 w19 =>
 SPL v18
 (b14_6 R C7 x0 x2 x12 x84 v12 w19)
 (b15 R C7 x0 x12 v12 x84 w19)
def b14_8 (R:EP) (C7:VP) (x0 x2 x12 x84 v6:Value) (w7:World) (_r:Tok R:=tok R) (_C7:Tok C7:=tok C7):Prop :=
 RUN prog R (extract v6 0) w7 fun v8 w9 =>
 RUN prog R (extract v6 1) w9 fun v10 w11 =>
 CALL prog R spec_enough.id #[v8,v10] w11 fun v12 w13 =>
 b14_7 R C7 x0 x2 x12 x84 v12 w13

def b14 (R:EP) (C7:VP) (x0 x2 x12 x13 x14 x84:Value) (w:World) (_r:Tok R:=tok R) (_C7:Tok C7:=tok C7):Prop :=
 NILC x0 fun v1 =>
 RUN prog R (fieldAt 64 v1 0) w fun v2 w3 =>
 RUN prog R (loadAt 61 v2) w3 fun v4 w5 =>
 CALL prog R gram_Builder_Rule.id #[v4,x13,x14] w5 fun v6 w7 =>
 b14_8 R C7 x0 x2 x12 x84 v6 w7
theorem b14_ok (R:EP) (C7:VP):TI prog R (sndC p8) (q3 R C7) fun z w=>b14 R C7 (z 0) (z 2) (z 12) (z 13) (z 14) (z 84) w:=appT 1 (b15_ok R C7)
noncomputable abbrev p10:Code:=dropC 1 (fstC p8)
noncomputable abbrev p11:Code:=loopC (blkC p10)
def b19_1 (R:EP) (C18:Value→VP) (x14 x101 v12:Value) (w13:World) (_r:Tok R:=tok R) (_C18:Tok C18:=tok C18):Prop :=
 RUN prog R (buildSlice 25 1 #[(0,v12)]) w13 fun v14 w15 =>
 RUN prog R (Builtin.append_ #[25,25] 25 #[x14,v14]) w15 fun v16 w17 =>
 RUN prog R (bins .add 3 (.tmp 101) (.const (Value.int .i64 1)) x101 (Value.int .i64 1)) w17 fun v18 w19 =>
 C18 v16 v18 w19
def b19_2 (R:EP) (C18:Value→VP) (x0 x14 x99 x101:Value) (w2:World) (_r:Tok R:=tok R) (_C18:Tok C18:=tok C18):Prop :=
 RUN prog R (indexAt 83 x99 x101) w2 fun v3 w4 =>
 RUN prog R (loadAt 91 v3) w4 fun v5 w6 =>
 RUN prog R (alloc 91 true (.tuple #[])) w6 fun v7 w8 =>
 RUNU prog R (storeAt 91 v7 v5) w8 fun w9 =>
 RUN prog R (loadAt 91 v7) w9 fun v10 w11 =>
 CALL prog R spec_maker_symbol.id #[x0,v10] w11 fun v12 w13 =>
 b19_1 R C18 x14 x101 v12 w13

def b19 (R:EP) (C7:VP) (C18:Value→VP) (x0 x2 x12 x13 x14 x84 x99 x100 x101:Value) (w:World) (_r:Tok R:=tok R) (_C7:Tok C7:=tok C7) (_C18:Tok C18:=tok C18):Prop :=
 RUN prog R (bins .lss 3 (.tmp 101) (.tmp 100) x101 x100) w fun v1 w2 =>
 SPL v1
 (b19_2 R C18 x0 x14 x99 x101 w2)
 (b14 R C7 x0 x2 x12 x13 x14 x84 w2)
abbrev q4 (R:EP) (C7:VP) (C18:Value→VP):XP:=QX (fun z w=>C18 (z 14) (z 101) w) (r0 R) [(16,(fun z w=>b14 R C7 (z 0) (z 2) (z 12) (z 13) (z 14) (z 84) w)),(14,(fun z w=>b10 R C7 (z 84) w)),(12,(fun z w=>b4 R (z 0) w))]
theorem b19_ok (R:EP) (C7:VP) (C18:Value→VP):TI prog R p11 (q4 R C7 C18) fun z w=>b19 R C7 C18 (z 0) (z 2) (z 12) (z 13) (z 14) (z 84) (z 99) (z 100) (z 101) w:=ofT

def l18 (R:EP) (C7:VP) (x0 x2 x12 x13 x14 x84 x99 x100 x101:Value) (w:World) (_r:Tok R:=tok R) (_C7:Tok C7:=tok C7):Prop :=
 ∃(J:Value→VP) (μ:Value→Value→World→Nat),J x14 x101 w∧∀y14 y101 w0,J y14 y101 w0→b19 R C7 (fun z14 z101 w1=>J z14 z101 w1∧μ z14 z101 w1<μ y14 y101 w0) x0 x2 x12 x13 y14 x84 x99 x100 y101 w0
abbrev q5 (R:EP) (C7:VP):XP:=QX (fun z w=>b14 R C7 (z 0) (z 2) (z 12) (z 13) (z 14) (z 84) w) (r0 R) [(16,(fun z w=>b14 R C7 (z 0) (z 2) (z 12) (z 13) (z 14) (z 84) w)),(14,(fun z w=>b10 R C7 (z 84) w)),(12,(fun z w=>b4 R (z 0) w))]
theorem l18_ok (R:EP) (C7:VP):TI prog R (blkC p10) (q5 R C7) fun z w=>l18 R C7 (z 0) (z 2) (z 12) (z 13) (z 14) (z 84) (z 99) (z 100) (z 101) w:=fun z w h=>by
 unfold l18 at h
 obtain ⟨J,μ,h0,hr⟩:=h
 refine loopT (fun z' w'=>J (z' 14) (z' 101) w') (fun z' w'=>μ (z' 14) (z' 101) w') h0 fun z' w' hA hI=>b19_ok R C7 (fun z14 z101 w1=>J z14 z101 w1∧μ z14 z101 w1<μ (z' 14) (z' 101) w') z' w' ?_
 have h1:=hr (z' 14) (z' 101) w' hI
 rwa [←hA.on 0,←hA.on 2,←hA.on 12,←hA.on 13,←hA.on 84,←hA.on 99,←hA.on 100] at h1
theorem l18_intro (R:EP) (C7:VP) (x0 x2 x12 x13 x14 x84 x99 x100 x101:Value) (w:World) (J:Value→VP) (μ:Value→Value→World→Nat) (h0:J x14 x101 w)
   (hr:∀y14 y101 w0,J y14 y101 w0→∀C18:Value→VP,(∀z14 z101 w1,J z14 z101 w1→μ z14 z101 w1<μ y14 y101 w0→C18 z14 z101 w1)→b19 R C7 C18 x0 x2 x12 x13 y14 x84 x99 x100 y101 w0):l18 R C7 x0 x2 x12 x13 x14 x84 x99 x100 x101 w:=by
 unfold l18
 exact ⟨J,μ,h0,fun y14 y101 w0 hJ=>hr y14 y101 w0 hJ _ (fun z14 z101 w1 h1 h2=>⟨h1,h2⟩)⟩
abbrev q6 (R:EP) (C7:VP):XP:=QX (fun z w=>b14 R C7 (z 0) (z 2) (z 12) (z 13) (z 14) (z 84) w) (r0 R) [(14,(fun z w=>b10 R C7 (z 84) w)),(12,(fun z w=>b4 R (z 0) w))]
theorem k17_ok (R:EP) (C7:VP):TI prog R p10 (q6 R C7) fun z w=>l18 R C7 (z 0) (z 2) (z 12) (z 13) (z 14) (z 84) (z 99) (z 100) (z 101) w:=blockT 8 (l18_ok R C7)

def b16 (R:EP) (C7:VP) (x0 x2 x12 x13 x14 x84:Value) (w:World) (_r:Tok R:=tok R) (_C7:Tok C7:=tok C7):Prop :=
 RUN prog R (fieldAt 112 x12 1) w fun v1 w2 =>
 RUN prog R (loadAt 83 v1) w2 fun v3 w4 =>
 RUN prog R (Builtin.len_ #[83] 3 #[v3]) w4 fun v5 w6 =>
 l18 R C7 x0 x2 x12 x13 x14 x84 v3 v5 (Value.int .i64 0) w6
theorem b16_ok (R:EP) (C7:VP):TI prog R (fstC p8) (q6 R C7) fun z w=>b16 R C7 (z 0) (z 2) (z 12) (z 13) (z 14) (z 84) w:=appT 0 (k17_ok R C7)
theorem k13_ok (R:EP) (C7:VP):TI prog R p8 (q3 R C7) fun z w=>b16 R C7 (z 0) (z 2) (z 12) (z 13) (z 14) (z 84) w:=seqT (b16_ok R C7) (b14_ok R C7)
def b12_1 (R:EP) (C7:VP) (x0 x2 x84 v5 v13:Value) (w14:World) (_r:Tok R:=tok R) (_C7:Tok C7:=tok C7):Prop :=
 PUR prog (extract v13 0) fun v15 =>
 PUR prog (extract v13 1) fun v16 =>
 CALL prog R spec_enough.id #[v15,v16] w14 fun v17 w18 =>
 b16 R C7 x0 x2 v5 v17 (Value.slice Option.none 0 0) x84 w18

def b12 (R:EP) (C7:VP) (x0 x2 x82 x84:Value) (w:World) (_r:Tok R:=tok R) (_C7:Tok C7:=tok C7):Prop :=
 RUN prog R (indexAt 85 x82 x84) w fun v1 w2 =>
 RUN prog R (loadAt 112 v1) w2 fun v3 w4 =>
 RUN prog R (alloc 112 true (.tuple #[])) w4 fun v5 w6 =>
 RUNU prog R (storeAt 112 v5 v3) w6 fun w7 =>
 NILC x0 fun v8 =>
 PUR prog (fieldAt 64 v8 0) fun v9 =>
 LD prog (loadAt 61 v9) (World.drew w7) fun v10 =>
 PUR prog (fieldAt 112 v5 0) fun v11 =>
 LD prog (loadAt 9 v11) (World.drew w7) fun v12 =>
 CALL prog R gram_Builder_Non.id #[v10,v12] (World.drew w7) fun v13 w14 =>
 b12_1 R C7 x0 x2 x84 v5 v13 w14
theorem b12_ok (R:EP) (C7:VP):TI prog R p7 (q3 R C7) fun z w=>b12 R C7 (z 0) (z 2) (z 82) (z 84) w:=appT 2 (k13_ok R C7)
abbrev q7 (R:EP) (C7:VP):XP:=QX (fun z w=>b10 R C7 (z 84) w) (r0 R) [(12,(fun z w=>b4 R (z 0) w))]
theorem k11_ok (R:EP) (C7:VP):TI prog R (fstC p6) (q7 R C7) fun z w=>b12 R C7 (z 0) (z 2) (z 82) (z 84) w:=blockT 7 (b12_ok R C7)
theorem k9_ok (R:EP) (C7:VP):TI prog R p6 (q2 R C7) fun z w=>b12 R C7 (z 0) (z 2) (z 82) (z 84) w:=seqT (k11_ok R C7) (b10_ok R C7)

def b8 (R:EP) (C7:VP) (x0 x2 x82 x83 x84:Value) (w:World) (_r:Tok R:=tok R) (_C7:Tok C7:=tok C7):Prop :=
 RUN prog R (bins .lss 3 (.tmp 84) (.tmp 83) x84 x83) w fun v1 w2 =>
 SPL v1
 (b12 R C7 x0 x2 x82 x84 w2)
 (b4 R x0 w2)
theorem b8_ok (R:EP) (C7:VP):TI prog R p5 (q2 R C7) fun z w=>b8 R C7 (z 0) (z 2) (z 82) (z 83) (z 84) w:=appT 1 (k9_ok R C7)

def l7 (R:EP) (x0 x2 x82 x83 x84:Value) (w:World) (_r:Tok R:=tok R):Prop :=
 ∃(J:VP) (μ:Value→World→Nat),J x84 w∧∀y84 w0,J y84 w0→b8 R (fun z84 w1=>J z84 w1∧μ z84 w1<μ y84 w0) x0 x2 x82 x83 y84 w0
abbrev q8 (R:EP):XP:=QX (fun z w=>b4 R (z 0) w) (r0 R) [(12,(fun z w=>b4 R (z 0) w))]
theorem l7_ok (R:EP):TI prog R (blkC p4) (q8 R) fun z w=>l7 R (z 0) (z 2) (z 82) (z 83) (z 84) w:=fun z w h=>by
 unfold l7 at h
 obtain ⟨J,μ,h0,hr⟩:=h
 refine loopT (fun z' w'=>J (z' 84) w') (fun z' w'=>μ (z' 84) w') h0 fun z' w' hA hI=>b8_ok R (fun z84 w1=>J z84 w1∧μ z84 w1<μ (z' 84) w') z' w' ?_
 have h1:=hr (z' 84) w' hI
 rwa [←hA.on 0,←hA.on 2,←hA.on 82,←hA.on 83] at h1
theorem l7_intro (R:EP) (x0 x2 x82 x83 x84:Value) (w:World) (J:VP) (μ:Value→World→Nat) (h0:J x84 w)
   (hr:∀y84 w0,J y84 w0→∀C7:VP,(∀z84 w1,J z84 w1→μ z84 w1<μ y84 w0→C7 z84 w1)→b8 R C7 x0 x2 x82 x83 y84 w0):l7 R x0 x2 x82 x83 x84 w:=by
 unfold l7
 exact ⟨J,μ,h0,fun y84 w0 hJ=>hr y84 w0 hJ _ (fun z84 w1 h1 h2=>⟨h1,h2⟩)⟩
abbrev q9 (R:EP):XP:=QX (fun z w=>b4 R (z 0) w) (r0 R) []
theorem k6_ok (R:EP):TI prog R p4 (q9 R) fun z w=>l7 R (z 0) (z 2) (z 82) (z 83) (z 84) w:=blockT 6 (l7_ok R)

def b5 (R:EP) (x0 x2:Value) (w:World) (_r:Tok R:=tok R):Prop :=
 NILC x0 fun v1 =>
 RUN prog R (fieldAt 64 v1 1) w fun v2 w3 =>
 RUN prog R (loadAt 56 v2) w3 fun v4 w5 =>
 NILC v4 fun v6 =>
 RUN prog R (fieldAt 87 v6 7) w5 fun v7 w8 =>
 RUN prog R (loadAt 85 v7) w8 fun v9 w10 =>
 RUN prog R (Builtin.len_ #[85] 3 #[v9]) w10 fun v11 w12 =>
 l7 R x0 x2 v9 v11 (Value.int .i64 0) w12
theorem b5_ok (R:EP):TI prog R p3 (q9 R) fun z w=>b5 R (z 0) (z 2) w:=appT 0 (k6_ok R)
theorem k3_ok (R:EP):TI prog R (sndC p1) (q1 R) fun z w=>b5 R (z 0) (z 2) w:=seqT (b5_ok R) (b4_ok R)
noncomputable abbrev p12:Code:=dropC 1 (fstC p1)
noncomputable abbrev p13:Code:=loopC (blkC p12)
noncomputable abbrev p14:Code:=dropC 2 p13

def b25 (R:EP) (C22:VP) (x27:Value) (w:World) (_r:Tok R:=tok R) (_C22:Tok C22:=tok C22):Prop :=
 RUN prog R (bins .add 3 (.tmp 27) (.const (Value.int .i64 1)) x27 (Value.int .i64 1)) w fun v1 w2 =>
 C22 v1 w2
abbrev q10 (R:EP) (C22:VP):XP:=QX (fun z w=>C22 (z 27) w) (r0 R) [(0,(fun z w=>b5 R (z 0) (z 2) w))]
theorem b25_ok (R:EP) (C22:VP):TI prog R (sndC p14) (q10 R C22) fun z w=>b25 R C22 (z 27) w:=ofT
noncomputable abbrev p15:Code:=blkC (fstC p14)
noncomputable abbrev p16:Code:=dropC 2 p15
noncomputable abbrev p17:Code:=dropC 1 (sndC p16)
noncomputable abbrev p18:Code:=dropC 2 (thnC p17)
noncomputable abbrev p19:Code:=loopC (blkC p18)
def b34_1 (R:EP) (C33:VP) (x2 x8 x65 x67:Value) (w2:World) (_r:Tok R:=tok R) (_C33:Tok C33:=tok C33):Prop :=
 RUN prog R (indexAt 25 x65 x67) w2 fun v3 w4 =>
 RUN prog R (loadAt 3 v3) w4 fun v5 w6 =>
 RUNU prog R (mapUpdate 104 x2 v5 x8) w6 fun w7 =>
 RUN prog R (bins .add 3 (.tmp 67) (.const (Value.int .i64 1)) x67 (Value.int .i64 1)) w7 fun v8 w9 =>
 C33 v8 w9

def b34 (R:EP) (C22:VP) (C33:VP) (x2 x8 x27 x65 x66 x67:Value) (w:World) (_r:Tok R:=tok R) (_C22:Tok C22:=tok C22) (_C33:Tok C33:=tok C33):Prop :=
 RUN prog R (bins .lss 3 (.tmp 67) (.tmp 66) x67 x66) w fun v1 w2 =>
 SPL v1
 (b34_1 R C33 x2 x8 x65 x67 w2)
 (b25 R C22 x27 w2)
abbrev q11 (R:EP) (C22:VP) (C33:VP):XP:=QX (fun z w=>C33 (z 67) w) (r0 R) [(8,(fun z w=>b25 R C22 (z 27) w)),(2,(fun z w=>b25 R C22 (z 27) w)),(0,(fun z w=>b5 R (z 0) (z 2) w))]
theorem b34_ok (R:EP) (C22:VP) (C33:VP):TI prog R p19 (q11 R C22 C33) fun z w=>b34 R C22 C33 (z 2) (z 8) (z 27) (z 65) (z 66) (z 67) w:=ofT

def l33 (R:EP) (C22:VP) (x2 x8 x27 x65 x66 x67:Value) (w:World) (_r:Tok R:=tok R) (_C22:Tok C22:=tok C22):Prop :=
 ∃(J:VP) (μ:Value→World→Nat),J x67 w∧∀y67 w0,J y67 w0→b34 R C22 (fun z67 w1=>J z67 w1∧μ z67 w1<μ y67 w0) x2 x8 x27 x65 x66 y67 w0
abbrev q12 (R:EP) (C22:VP):XP:=QX (fun z w=>b25 R C22 (z 27) w) (r0 R) [(8,(fun z w=>b25 R C22 (z 27) w)),(2,(fun z w=>b25 R C22 (z 27) w)),(0,(fun z w=>b5 R (z 0) (z 2) w))]
theorem l33_ok (R:EP) (C22:VP):TI prog R (blkC p18) (q12 R C22) fun z w=>l33 R C22 (z 2) (z 8) (z 27) (z 65) (z 66) (z 67) w:=fun z w h=>by
 unfold l33 at h
 obtain ⟨J,μ,h0,hr⟩:=h
 refine loopT (fun z' w'=>J (z' 67) w') (fun z' w'=>μ (z' 67) w') h0 fun z' w' hA hI=>b34_ok R C22 (fun z67 w1=>J z67 w1∧μ z67 w1<μ (z' 67) w') z' w' ?_
 have h1:=hr (z' 67) w' hI
 rwa [←hA.on 2,←hA.on 8,←hA.on 27,←hA.on 65,←hA.on 66] at h1
theorem l33_intro (R:EP) (C22:VP) (x2 x8 x27 x65 x66 x67:Value) (w:World) (J:VP) (μ:Value→World→Nat) (h0:J x67 w)
   (hr:∀y67 w0,J y67 w0→∀C33:VP,(∀z67 w1,J z67 w1→μ z67 w1<μ y67 w0→C33 z67 w1)→b34 R C22 C33 x2 x8 x27 x65 x66 y67 w0):l33 R C22 x2 x8 x27 x65 x66 x67 w:=by
 unfold l33
 exact ⟨J,μ,h0,fun y67 w0 hJ=>hr y67 w0 hJ _ (fun z67 w1 h1 h2=>⟨h1,h2⟩)⟩
abbrev q13 (R:EP) (C22:VP):XP:=QX (fun z w=>b25 R C22 (z 27) w) (r0 R) [(2,(fun z w=>b25 R C22 (z 27) w)),(0,(fun z w=>b5 R (z 0) (z 2) w))]
theorem k32_ok (R:EP) (C22:VP):TI prog R p18 (q13 R C22) fun z w=>l33 R C22 (z 2) (z 8) (z 27) (z 65) (z 66) (z 67) w:=blockT 4 (l33_ok R C22)
def b31_1 (R:EP) (C22:VP) (x2 x5 x27 v6:Value) (w7:World) (_r:Tok R:=tok R) (_C22:Tok C22:=tok C22):Prop :=
 PUR prog (extract v6 0) fun v8 =>
 PUR prog (extract v6 1) fun v9 =>
 CALL prog R spec_enough.id #[v8,v9] w7 fun v10 w11 =>
 RUN prog R (Builtin.len_ #[25] 3 #[x5]) w11 fun v12 w13 =>
 l33 R C22 x2 v10 x27 x5 v12 (Value.int .i64 0) w13

def b31 (R:EP) (C22:VP) (x0 x2 x4 x5 x27:Value) (w:World) (_r:Tok R:=tok R) (_C22:Tok C22:=tok C22):Prop :=
 NILC x0 fun v1 =>
 PUR prog (fieldAt 64 v1 0) fun v2 =>
 LD prog (loadAt 61 v2) (World.drew w) fun v3 =>
 PUR prog (fieldAt 106 x4 0) fun v4 =>
 LD prog (loadAt 3 v4) (World.drew w) fun v5 =>
 CALL prog R gram_Builder_Level.id #[v3,v5,x5] (World.drew w) fun v6 w7 =>
 b31_1 R C22 x2 x5 x27 v6 w7
theorem b31_ok (R:EP) (C22:VP):TI prog R (thnC p17) (q13 R C22) fun z w=>b31 R C22 (z 0) (z 2) (z 4) (z 5) (z 27) w:=appT 1 (k32_ok R C22)

def b35 (R:EP) (C22:VP) (x27:Value) (w:World) (_r:Tok R:=tok R) (_C22:Tok C22:=tok C22):Prop :=
 b25 R C22 x27 w
theorem b35_ok (R:EP) (C22:VP):TI prog R (elsC p17) (q13 R C22) fun z w=>b35 R C22 (z 27) w:=ofT

def b30 (R:EP) (C22:VP) (x0 x2 x4 x5 x27 x53:Value) (w:World) (_r:Tok R:=tok R) (_C22:Tok C22:=tok C22):Prop :=
 SPL x53 (b31 R C22 x0 x2 x4 x5 x27 w) (b35 R C22 x27 w)
theorem b30_ok (R:EP) (C22:VP):TI prog R p17 (q13 R C22) fun z w=>b30 R C22 (z 0) (z 2) (z 4) (z 5) (z 27) (z 53) w:=fun z w h=>by
 have e:Code.cond (.tmp 53) (thnC p17) (elsC p17)=p17:=by kernel_rfl
 rw [←e]
 exact condQ' h (fun h=>b31_ok R C22 z w h) (fun h=>b35_ok R C22 z w h)

def b29 (R:EP) (C22:VP) (x0 x2 x4 x5 x27:Value) (w:World) (_r:Tok R:=tok R) (_C22:Tok C22:=tok C22):Prop :=
 RUN prog R (fieldAt 106 x4 0) w fun v1 w2 =>
 RUN prog R (loadAt 3 v1) w2 fun v3 w4 =>
 RUN prog R (bins .gtr 3 (.tmp 52) (.const (Value.int .i64 0)) v3 (Value.int .i64 0)) w4 fun v5 w6 =>
 b30 R C22 x0 x2 x4 x5 x27 v5 w6
theorem b29_ok (R:EP) (C22:VP):TI prog R (sndC p16) (q13 R C22) fun z w=>b29 R C22 (z 0) (z 2) (z 4) (z 5) (z 27) w:=appT 0 (b30_ok R C22)
noncomputable abbrev p20:Code:=dropC 1 (fstC p16)
noncomputable abbrev p21:Code:=loopC (blkC p20)
def b39_1 (R:EP) (C38:Value→VP) (x5 x34 v18:Value) (w19:World) (_r:Tok R:=tok R) (_C38:Tok C38:=tok C38):Prop :=
 RUN prog R (buildSlice 25 1 #[(0,v18)]) w19 fun v20 w21 =>
 RUN prog R (Builtin.append_ #[25,25] 25 #[x5,v20]) w21 fun v22 w23 =>
 RUN prog R (bins .add 3 (.tmp 34) (.const (Value.int .i64 1)) x34 (Value.int .i64 1)) w23 fun v24 w25 =>
 C38 v22 v24 w25
def b39_2 (R:EP) (C38:Value→VP) (x5 x34 v12:Value) (w13:World) (_r:Tok R:=tok R) (_C38:Tok C38:=tok C38):Prop :=
 RUN prog R (extract v12 0) w13 fun v14 w15 =>
 RUN prog R (extract v12 1) w15 fun v16 w17 =>
 CALL prog R spec_enough.id #[v14,v16] w17 fun v18 w19 =>
 b39_1 R C38 x5 x34 v18 w19
def b39_3 (R:EP) (C38:Value→VP) (x0 x5 x32 x34:Value) (w2:World) (_r:Tok R:=tok R) (_C38:Tok C38:=tok C38):Prop :=
 RUN prog R (indexAt 24 x32 x34) w2 fun v3 w4 =>
 RUN prog R (loadAt 9 v3) w4 fun v5 w6 =>
 NILC x0 fun v7 =>
 RUN prog R (fieldAt 64 v7 0) w6 fun v8 w9 =>
 RUN prog R (loadAt 61 v8) w9 fun v10 w11 =>
 CALL prog R gram_Builder_Term.id #[v10,v5] w11 fun v12 w13 =>
 b39_2 R C38 x5 x34 v12 w13

def b39 (R:EP) (C22:VP) (C38:Value→VP) (x0 x2 x4 x5 x27 x32 x33 x34:Value) (w:World) (_r:Tok R:=tok R) (_C22:Tok C22:=tok C22) (_C38:Tok C38:=tok C38):Prop :=
 RUN prog R (bins .lss 3 (.tmp 34) (.tmp 33) x34 x33) w fun v1 w2 =>
 SPL v1
 (b39_3 R C38 x0 x5 x32 x34 w2)
 (b29 R C22 x0 x2 x4 x5 x27 w2)
abbrev q14 (R:EP) (C22:VP) (C38:Value→VP):XP:=QX (fun z w=>C38 (z 5) (z 34) w) (r0 R) [(4,(fun z w=>b29 R C22 (z 0) (z 2) (z 4) (z 5) (z 27) w)),(2,(fun z w=>b25 R C22 (z 27) w)),(0,(fun z w=>b5 R (z 0) (z 2) w))]
theorem b39_ok (R:EP) (C22:VP) (C38:Value→VP):TI prog R p21 (q14 R C22 C38) fun z w=>b39 R C22 C38 (z 0) (z 2) (z 4) (z 5) (z 27) (z 32) (z 33) (z 34) w:=ofT

def l38 (R:EP) (C22:VP) (x0 x2 x4 x5 x27 x32 x33 x34:Value) (w:World) (_r:Tok R:=tok R) (_C22:Tok C22:=tok C22):Prop :=
 ∃(J:Value→VP) (μ:Value→Value→World→Nat),J x5 x34 w∧∀y5 y34 w0,J y5 y34 w0→b39 R C22 (fun z5 z34 w1=>J z5 z34 w1∧μ z5 z34 w1<μ y5 y34 w0) x0 x2 x4 y5 x27 x32 x33 y34 w0
abbrev q15 (R:EP) (C22:VP):XP:=QX (fun z w=>b29 R C22 (z 0) (z 2) (z 4) (z 5) (z 27) w) (r0 R) [(4,(fun z w=>b29 R C22 (z 0) (z 2) (z 4) (z 5) (z 27) w)),(2,(fun z w=>b25 R C22 (z 27) w)),(0,(fun z w=>b5 R (z 0) (z 2) w))]
theorem l38_ok (R:EP) (C22:VP):TI prog R (blkC p20) (q15 R C22) fun z w=>l38 R C22 (z 0) (z 2) (z 4) (z 5) (z 27) (z 32) (z 33) (z 34) w:=fun z w h=>by
 unfold l38 at h
 obtain ⟨J,μ,h0,hr⟩:=h
 refine loopT (fun z' w'=>J (z' 5) (z' 34) w') (fun z' w'=>μ (z' 5) (z' 34) w') h0 fun z' w' hA hI=>b39_ok R C22 (fun z5 z34 w1=>J z5 z34 w1∧μ z5 z34 w1<μ (z' 5) (z' 34) w') z' w' ?_
 have h1:=hr (z' 5) (z' 34) w' hI
 rwa [←hA.on 0,←hA.on 2,←hA.on 4,←hA.on 27,←hA.on 32,←hA.on 33] at h1
theorem l38_intro (R:EP) (C22:VP) (x0 x2 x4 x5 x27 x32 x33 x34:Value) (w:World) (J:Value→VP) (μ:Value→Value→World→Nat) (h0:J x5 x34 w)
   (hr:∀y5 y34 w0,J y5 y34 w0→∀C38:Value→VP,(∀z5 z34 w1,J z5 z34 w1→μ z5 z34 w1<μ y5 y34 w0→C38 z5 z34 w1)→b39 R C22 C38 x0 x2 x4 y5 x27 x32 x33 y34 w0):l38 R C22 x0 x2 x4 x5 x27 x32 x33 x34 w:=by
 unfold l38
 exact ⟨J,μ,h0,fun y5 y34 w0 hJ=>hr y5 y34 w0 hJ _ (fun z5 z34 w1 h1 h2=>⟨h1,h2⟩)⟩
abbrev q16 (R:EP) (C22:VP):XP:=QX (fun z w=>b29 R C22 (z 0) (z 2) (z 4) (z 5) (z 27) w) (r0 R) [(2,(fun z w=>b25 R C22 (z 27) w)),(0,(fun z w=>b5 R (z 0) (z 2) w))]
theorem k37_ok (R:EP) (C22:VP):TI prog R p20 (q16 R C22) fun z w=>l38 R C22 (z 0) (z 2) (z 4) (z 5) (z 27) (z 32) (z 33) (z 34) w:=blockT 2 (l38_ok R C22)

def b36 (R:EP) (C22:VP) (x0 x2 x4 x5 x27:Value) (w:World) (_r:Tok R:=tok R) (_C22:Tok C22:=tok C22):Prop :=
 RUN prog R (fieldAt 106 x4 1) w fun v1 w2 =>
 RUN prog R (loadAt 24 v1) w2 fun v3 w4 =>
 RUN prog R (Builtin.len_ #[24] 3 #[v3]) w4 fun v5 w6 =>
 l38 R C22 x0 x2 x4 x5 x27 v3 v5 (Value.int .i64 0) w6
theorem b36_ok (R:EP) (C22:VP):TI prog R (fstC p16) (q16 R C22) fun z w=>b36 R C22 (z 0) (z 2) (z 4) (z 5) (z 27) w:=appT 0 (k37_ok R C22)
theorem k28_ok (R:EP) (C22:VP):TI prog R p16 (q13 R C22) fun z w=>b36 R C22 (z 0) (z 2) (z 4) (z 5) (z 27) w:=seqT (b36_ok R C22) (b29_ok R C22)

def b27 (R:EP) (C22:VP) (x0 x2 x25 x27:Value) (w:World) (_r:Tok R:=tok R) (_C22:Tok C22:=tok C22):Prop :=
 RUN prog R (indexAt 84 x25 x27) w fun v1 w2 =>
 RUN prog R (loadAt 106 v1) w2 fun v3 w4 =>
 RUN prog R (alloc 106 true (.tuple #[])) w4 fun v5 w6 =>
 RUNU prog R (storeAt 106 v5 v3) w6 fun w7 =>
 b36 R C22 x0 x2 v5 (Value.slice Option.none 0 0) x27 w7
theorem b27_ok (R:EP) (C22:VP):TI prog R p15 (q13 R C22) fun z w=>b27 R C22 (z 0) (z 2) (z 25) (z 27) w:=appT 1 (k28_ok R C22)
abbrev q17 (R:EP) (C22:VP):XP:=QX (fun z w=>b25 R C22 (z 27) w) (r0 R) [(0,(fun z w=>b5 R (z 0) (z 2) w))]
theorem k26_ok (R:EP) (C22:VP):TI prog R (fstC p14) (q17 R C22) fun z w=>b27 R C22 (z 0) (z 2) (z 25) (z 27) w:=blockT 1 (b27_ok R C22)
theorem k24_ok (R:EP) (C22:VP):TI prog R p14 (q10 R C22) fun z w=>b27 R C22 (z 0) (z 2) (z 25) (z 27) w:=seqT (k26_ok R C22) (b25_ok R C22)

def b23 (R:EP) (C22:VP) (x0 x2 x25 x26 x27:Value) (w:World) (_r:Tok R:=tok R) (_C22:Tok C22:=tok C22):Prop :=
 RUN prog R (bins .lss 3 (.tmp 27) (.tmp 26) x27 x26) w fun v1 w2 =>
 SPL v1
 (b27 R C22 x0 x2 x25 x27 w2)
 (b5 R x0 x2 w2)
theorem b23_ok (R:EP) (C22:VP):TI prog R p13 (q10 R C22) fun z w=>b23 R C22 (z 0) (z 2) (z 25) (z 26) (z 27) w:=appT 1 (k24_ok R C22)

def l22 (R:EP) (x0 x2 x25 x26 x27:Value) (w:World) (_r:Tok R:=tok R):Prop :=
 ∃(J:VP) (μ:Value→World→Nat),J x27 w∧∀y27 w0,J y27 w0→b23 R (fun z27 w1=>J z27 w1∧μ z27 w1<μ y27 w0) x0 x2 x25 x26 y27 w0
abbrev q18 (R:EP):XP:=QX (fun z w=>b5 R (z 0) (z 2) w) (r0 R) [(0,(fun z w=>b5 R (z 0) (z 2) w))]
theorem l22_ok (R:EP):TI prog R (blkC p12) (q18 R) fun z w=>l22 R (z 0) (z 2) (z 25) (z 26) (z 27) w:=fun z w h=>by
 unfold l22 at h
 obtain ⟨J,μ,h0,hr⟩:=h
 refine loopT (fun z' w'=>J (z' 27) w') (fun z' w'=>μ (z' 27) w') h0 fun z' w' hA hI=>b23_ok R (fun z27 w1=>J z27 w1∧μ z27 w1<μ (z' 27) w') z' w' ?_
 have h1:=hr (z' 27) w' hI
 rwa [←hA.on 0,←hA.on 2,←hA.on 25,←hA.on 26] at h1
theorem l22_intro (R:EP) (x0 x2 x25 x26 x27:Value) (w:World) (J:VP) (μ:Value→World→Nat) (h0:J x27 w)
   (hr:∀y27 w0,J y27 w0→∀C22:VP,(∀z27 w1,J z27 w1→μ z27 w1<μ y27 w0→C22 z27 w1)→b23 R C22 x0 x2 x25 x26 y27 w0):l22 R x0 x2 x25 x26 x27 w:=by
 unfold l22
 exact ⟨J,μ,h0,fun y27 w0 hJ=>hr y27 w0 hJ _ (fun z27 w1 h1 h2=>⟨h1,h2⟩)⟩
abbrev q19 (R:EP):XP:=QX (fun z w=>b5 R (z 0) (z 2) w) (r0 R) []
theorem k21_ok (R:EP):TI prog R p12 (q19 R) fun z w=>l22 R (z 0) (z 2) (z 25) (z 26) (z 27) w:=blockT 0 (l22_ok R)

def b20 (R:EP) (x0 x2:Value) (w:World) (_r:Tok R:=tok R):Prop :=
 NILC x0 fun v1 =>
 RUN prog R (fieldAt 64 v1 1) w fun v2 w3 =>
 RUN prog R (loadAt 56 v2) w3 fun v4 w5 =>
 NILC v4 fun v6 =>
 RUN prog R (fieldAt 87 v6 4) w5 fun v7 w8 =>
 RUN prog R (loadAt 84 v7) w8 fun v9 w10 =>
 RUN prog R (Builtin.len_ #[84] 3 #[v9]) w10 fun v11 w12 =>
 l22 R x0 x2 v9 v11 (Value.int .i64 0) w12
theorem b20_ok (R:EP):TI prog R (fstC p1) (q19 R) fun z w=>b20 R (z 0) (z 2) w:=appT 0 (k21_ok R)
theorem k2_ok (R:EP):TI prog R p1 (q1 R) fun z w=>b20 R (z 0) (z 2) w:=seqT (b20_ok R) (k3_ok R)

def b1 (R:EP) (x0:Value) (w:World) (_r:Tok R:=tok R):Prop :=
 RUN prog R (makeMap 104 none) w fun v1 w2 =>
 b20 R x0 v1 w2
theorem b1_ok (R:EP):TI prog R code (q1 R) fun z w=>b1 R (z 0) w:=appT 0 (k2_ok R)
def run (R:EP) (a0:Value) (w:World):Prop:=b1 R a0 w
theorem calls (R:EP) (a0:Value) (w:World) (h:run R a0 w):Calls prog id #[a0] w R:=cls_0 func28 [a0] (b1_ok R _ w h)
theorem enters:Enters prog id:=fun args w=>call28 args w
theorem ct {a0:Value} {w:World} {S:VP} (h:∀R:EP,(∀v w,S v w→R (.returned v) w)→run R a0 w):Ct prog id #[a0] w S :=
 Ct.intro enters fun R hR=>calls R a0 w (h R hR)
attribute [irreducible] l18 l7 l33 l38 l22
attribute [irreducible,go_sem] b4_1 b4_2 b4 b10 b15_1 b15 b14_1 b14_2 b14_3 b14_4 b14_5 b14_6 b14_7 b14_8 b14 b19_1 b19_2 b19 b16 b12_1 b12 b8 b5 b25 b34_1 b34 b31_1 b31 b35 b30 b29 b39_1 b39_2 b39_3 b39 b36 b27 b23 b20 b1 run
end spec_maker_all

/-! ### (*presage/spec.reader).text -/
namespace spec_reader_text
noncomputable def code:Code:=bodyOf f43
noncomputable abbrev p1:Code:=dropC 1 (sndC code)
noncomputable abbrev p2:Code:=dropC 1 (sndC p1)
def b5 (R:EP) (x0 x38:Value) (w:World) (_r:Tok R:=tok R):Prop :=
 SPL x38
 (CALL prog R spec_reader_fail.id #[x0] w fun v1 w2 =>
 R (.returned (.tuple #[])) w2)
 (R (.returned (.tuple #[])) w)
abbrev r0 (R:EP) (z:Env) (w:World):Prop:=R (.returned (.tuple #[])) w
abbrev q1 (R:EP):XP:=QX (r0 R) (r0 R) []
theorem b5_ok (R:EP):TI prog R p2 (q1 R) fun z w=>b5 R (z 0) (z 38) w:=ofT
def b4_1 (R:EP) (x0:Value) (w:World) (_r:Tok R:=tok R):Prop :=
 NILC x0 fun v5 =>
 PUR prog (fieldAt 87 v5 6) fun v6 =>
 LD prog (loadAt 82 v6) (World.drew w) fun v7 =>
 NILC x0 fun v8 =>
 PUR prog (fieldAt 87 v8 5) fun v9 =>
 LD prog (loadAt 9 v9) (World.drew w) fun v10 =>
 LD prog (lookup 82 v7 v10 false) (World.drew w) fun v11 =>
 PUR prog (bins .eql 3 (.tmp 36) (.const (Value.int .i64 0)) v11 (Value.int .i64 0)) fun v12 =>
 b5 R x0 v12 (World.drew w)
def b4 (R:EP) (x0:Value) (w:World) (_r:Tok R:=tok R):Prop :=
 NILC x0 fun v1 =>
 PUR prog (fieldAt 87 v1 5) fun v2 =>
 LD prog (loadAt 9 v2) (World.drew w) fun v3 =>
 PUR prog (bins .neq 9 (.tmp 25) (.const (Value.string ⟨#[]⟩)) v3 (Value.string ⟨#[]⟩)) fun v4 =>
 SPL v4
 (b4_1 R x0 w)
 (b5 R x0 (Value.bool false) (World.drew w))
theorem b4_ok (R:EP):TI prog R (sndC p1) (q1 R) fun z w=>b4 R (z 0) w:=appT 0 (b5_ok R)
noncomputable abbrev p3:Code:=blkC (fstC p1)
def b8 (R:EP) (C7:World→Prop) (x0:Value) (w:World) (_r:Tok R:=tok R) (_C7:Tok C7:=tok C7):Prop :=
 NILC x0 fun v1 =>
 PUR prog (fieldAt 87 v1 1) fun v2 =>
 LD prog (loadAt 3 v2) (World.drew w) fun v3 =>
 NILC x0 fun v4 =>
 PUR prog (fieldAt 87 v4 0) fun v5 =>
 LD prog (loadAt 83 v5) (World.drew w) fun v6 =>
 LD prog (Builtin.len_ #[83] 3 #[v6]) (World.drew w) fun v7 =>
 PUR prog (bins .lss 3 (.tmp 13) (.tmp 18) v3 v7) fun v8 =>
 SPL v8
 (CALL prog R spec_reader_rule.id #[x0] (World.drew w) fun v9 w10 =>
 C7  w10)
 (b4 R x0 (World.drew w))
abbrev q2 (R:EP) (C7:World→Prop):XP:=QX (fun z w=>C7  w) (r0 R) [(4,(fun z w=>b4 R (z 0) w))]
theorem b8_ok (R:EP) (C7:World→Prop):TI prog R (loopC p3) (q2 R C7) fun z w=>b8 R C7 (z 0) w:=ofT
def l7 (R:EP) (x0:Value) (w:World) (_r:Tok R:=tok R):Prop :=
 ∃(J:World→Prop) (μ:World→Nat),J  w∧∀w0,J  w0→b8 R (fun  w1=>J  w1∧μ  w1<μ  w0) x0 w0
abbrev q3 (R:EP):XP:=QX (fun z w=>b4 R (z 0) w) (r0 R) [(4,(fun z w=>b4 R (z 0) w))]
theorem l7_ok (R:EP):TI prog R p3 (q3 R) fun z w=>l7 R (z 0) w:=fun z w h=>by
 unfold l7 at h
 obtain ⟨J,μ,h0,hr⟩:=h
 refine loopT (fun z' w'=>J  w') (fun z' w'=>μ  w') h0 fun z' w' hA hI=>b8_ok R (fun  w1=>J  w1∧μ  w1<μ  w') z' w' ?_
 have h1:=hr  w' hI
 rwa [←hA.on 0] at h1
theorem l7_intro (R:EP) (x0:Value) (w:World) (J:World→Prop) (μ:World→Nat) (h0:J  w)
   (hr:∀w0,J  w0→∀C7:World→Prop,(∀w1,J  w1→μ  w1<μ  w0→C7  w1)→b8 R C7 x0 w0):l7 R x0 w:=by
 unfold l7
 exact ⟨J,μ,h0,fun  w0 hJ=>hr  w0 hJ _ (fun  w1 h1 h2=>⟨h1,h2⟩)⟩
abbrev q4 (R:EP):XP:=QX (fun z w=>b4 R (z 0) w) (r0 R) []
theorem k6_ok (R:EP):TI prog R (fstC p1) (q4 R) fun z w=>l7 R (z 0) w:=blockT 2 (l7_ok R)
theorem k3_ok (R:EP):TI prog R p1 (q1 R) fun z w=>l7 R (z 0) w:=seqT (k6_ok R) (b4_ok R)
def b2 (R:EP) (x0:Value) (w:World) (_r:Tok R:=tok R):Prop :=
 CALL prog R spec_reader_rule.id #[x0] w fun v1 w2 =>
 l7 R x0 w2
theorem b2_ok (R:EP):TI prog R (sndC code) (q1 R) fun z w=>b2 R (z 0) w:=appT 0 (k3_ok R)
noncomputable abbrev p4:Code:=blkC (fstC code)
def b11_1 (R:EP) (C10:World→Prop) (x0 v1:Value) (w2:World) (_r:Tok R:=tok R) (_C10:Tok C10:=tok C10):Prop :=
 RUN prog R (field 91 v1 0) w2 fun v3 w4 =>
 RUN prog R (bins .eql 3 (.tmp 4) (.const (Value.int .i64 3)) v3 (Value.int .i64 3)) w4 fun v5 w6 =>
 SPL v5
 (CALL prog R spec_reader_header.id #[x0] w6 fun v7 w8 =>
 C10  w8)
 (b2 R x0 w6)
def b11 (R:EP) (C10:World→Prop) (x0:Value) (w:World) (_r:Tok R:=tok R) (_C10:Tok C10:=tok C10):Prop :=
 CALL prog R spec_reader_now.id #[x0] w fun v1 w2 =>
 b11_1 R C10 x0 v1 w2
abbrev q5 (R:EP) (C10:World→Prop):XP:=QX (fun z w=>C10  w) (r0 R) [(0,(fun z w=>b2 R (z 0) w))]
theorem b11_ok (R:EP) (C10:World→Prop):TI prog R (loopC p4) (q5 R C10) fun z w=>b11 R C10 (z 0) w:=ofT
def l10 (R:EP) (x0:Value) (w:World) (_r:Tok R:=tok R):Prop :=
 ∃(J:World→Prop) (μ:World→Nat),J  w∧∀w0,J  w0→b11 R (fun  w1=>J  w1∧μ  w1<μ  w0) x0 w0
abbrev q6 (R:EP):XP:=QX (fun z w=>b2 R (z 0) w) (r0 R) [(0,(fun z w=>b2 R (z 0) w))]
theorem l10_ok (R:EP):TI prog R p4 (q6 R) fun z w=>l10 R (z 0) w:=fun z w h=>by
 unfold l10 at h
 obtain ⟨J,μ,h0,hr⟩:=h
 refine loopT (fun z' w'=>J  w') (fun z' w'=>μ  w') h0 fun z' w' hA hI=>b11_ok R (fun  w1=>J  w1∧μ  w1<μ  w') z' w' ?_
 have h1:=hr  w' hI
 rwa [←hA.on 0] at h1
theorem l10_intro (R:EP) (x0:Value) (w:World) (J:World→Prop) (μ:World→Nat) (h0:J  w)
   (hr:∀w0,J  w0→∀C10:World→Prop,(∀w1,J  w1→μ  w1<μ  w0→C10  w1)→b11 R C10 x0 w0):l10 R x0 w:=by
 unfold l10
 exact ⟨J,μ,h0,fun  w0 hJ=>hr  w0 hJ _ (fun  w1 h1 h2=>⟨h1,h2⟩)⟩
abbrev q7 (R:EP):XP:=QX (fun z w=>b2 R (z 0) w) (r0 R) []
theorem k9_ok (R:EP):TI prog R (fstC code) (q7 R) fun z w=>l10 R (z 0) w:=blockT 0 (l10_ok R)
theorem k1_ok (R:EP):TI prog R code (q1 R) fun z w=>l10 R (z 0) w:=seqT (k9_ok R) (b2_ok R)
def run (R:EP) (a0:Value) (w:World):Prop:=l10 R a0 w
theorem calls (R:EP) (a0:Value) (w:World) (h:run R a0 w):Calls prog id #[a0] w R:=cls_0 func43 [a0] (k1_ok R _ w h)
theorem enters:Enters prog id:=fun args w=>call43 args w
theorem ct {a0:Value} {w:World} {S:VP} (h:∀R:EP,(∀v w,S v w→R (.returned v) w)→run R a0 w):Ct prog id #[a0] w S :=
 Ct.intro enters fun R hR=>calls R a0 w (h R hR)
attribute [irreducible] l7 l10
attribute [irreducible,go_sem] b5 b4_1 b4 b8 b2 b11_1 b11 run
end spec_reader_text

/-! ### presage/spec.enough -/
namespace spec_enough
noncomputable def code:Code:=bodyOf f44
noncomputable abbrev p1:Code:=dropC 2 code
def b2 (R:EP) (x0:Value) (w:World) (_r:Tok R:=tok R):Prop :=
 R (.returned x0) w
abbrev r0 (R:EP) (z:Env) (w:World):Prop:=R (.returned (z 4)) w
abbrev q1 (R:EP):XP:=QX (r0 R) (r0 R) []
theorem b2_ok (R:EP):TI prog R p1 (q1 R) fun z w=>b2 R (z 0) w:=ofT
def b1_1 (R:EP) (x0 x1:Value) (w2:World) (_r:Tok R:=tok R):Prop :=
 RUN prog R (makeInterface 29 x1) w2 fun v3 w4 =>
 RUN prog R (panic v3) w4 fun v5 w6 =>
 b2 R x0 w6
def b1 (R:EP) (x0 x1:Value) (w:World) (_r:Tok R:=tok R):Prop :=
 RUN prog R (bins .neq 29 (.tmp 5) (.const (Value.int .i64 0)) x1 (Value.int .i64 0)) w fun v1 w2 =>
 SPL v1
 (b1_1 R x0 x1 w2)
 (b2 R x0 w2)
theorem b1_ok (R:EP):TI prog R code (q1 R) fun z w=>b1 R (z 0) (z 1) w:=appT 1 (b2_ok R)
def run (R:EP) (a0 a1:Value) (w:World):Prop:=b1 R a0 a1 w
theorem calls (R:EP) (a0 a1:Value) (w:World) (h:run R a0 a1 w):Calls prog id #[a0,a1] w R:=cls_t func44 [a0,a1] (b1_ok R _ w h)
theorem enters:Enters prog id:=fun args w=>call44 args w
theorem ct {a0 a1:Value} {w:World} {S:VP} (h:∀R:EP,(∀v w,S v w→R (.returned v) w)→run R a0 a1 w):Ct prog id #[a0,a1] w S :=
 Ct.intro enters fun R hR=>calls R a0 a1 w (h R hR)
attribute [irreducible,go_sem] b2 b1_1 b1 run
end spec_enough

/-! ### (*presage/spec.maker).symbol -/
namespace spec_maker_symbol
noncomputable def code:Code:=bodyOf f48
noncomputable abbrev p1:Code:=dropC 1 code
def b3_1 (R:EP) (v6:Value) (w7:World) (_r:Tok R:=tok R):Prop :=
 PUR prog (extract v6 0) fun v8 =>
 PUR prog (extract v6 1) fun v9 =>
 CALL prog R spec_enough.id #[v8,v9] w7 fun v10 w11 =>
 R (.returned v10) w11
def b3 (R:EP) (x0 x3:Value) (w:World) (_r:Tok R:=tok R):Prop :=
 NILC x0 fun v1 =>
 PUR prog (fieldAt 64 v1 0) fun v2 =>
 LD prog (loadAt 61 v2) (World.drew w) fun v3 =>
 PUR prog (fieldAt 91 x3 1) fun v4 =>
 LD prog (loadAt 9 v4) (World.drew w) fun v5 =>
 CALL prog R gram_Builder_Term.id #[v3,v5] (World.drew w) fun v6 w7 =>
 b3_1 R v6 w7
abbrev r0 (R:EP) (z:Env) (w:World):Prop:=R (.returned (z 4)) w
abbrev q1 (R:EP):XP:=QX (r0 R) (r0 R) []
theorem b3_ok (R:EP):TI prog R (sndC p1) (q1 R) fun z w=>b3 R (z 0) (z 3) w:=ofT
noncomputable abbrev p2:Code:=dropC 1 (fstC p1)
def b5_1 (R:EP) (v6:Value) (w7:World) (_r:Tok R:=tok R):Prop :=
 PUR prog (extract v6 0) fun v8 =>
 PUR prog (extract v6 1) fun v9 =>
 CALL prog R spec_enough.id #[v8,v9] w7 fun v10 w11 =>
 R (.returned v10) w11
def b5_2 (R:EP) (x0 x3:Value) (w:World) (_r:Tok R:=tok R):Prop :=
 NILC x0 fun v1 =>
 PUR prog (fieldAt 64 v1 0) fun v2 =>
 LD prog (loadAt 61 v2) (World.drew w) fun v3 =>
 PUR prog (fieldAt 91 x3 1) fun v4 =>
 LD prog (loadAt 9 v4) (World.drew w) fun v5 =>
 CALL prog R gram_Builder_Non.id #[v3,v5] (World.drew w) fun v6 w7 =>
 b5_1 R v6 w7
def b5 (R:EP) (x0 x3 x20:Value) (w:World) (_r:Tok R:=tok R):Prop :=
 SPL x20
 (b5_2 R x0 x3 w)
 (b3 R x0 x3 w)
abbrev q2 (R:EP):XP:=QX (fun z w=>b3 R (z 0) (z 3) w) (r0 R) []
theorem b5_ok (R:EP):TI prog R p2 (q2 R) fun z w=>b5 R (z 0) (z 3) (z 20) w:=ofT
def b4_1 (R:EP) (x0 x3:Value) (w:World) (_r:Tok R:=tok R):Prop :=
 NILC x0 fun v4 =>
 PUR prog (fieldAt 64 v4 1) fun v5 =>
 LD prog (loadAt 56 v5) (World.drew w) fun v6 =>
 NILC v6 fun v7 =>
 PUR prog (fieldAt 87 v7 6) fun v8 =>
 LD prog (loadAt 82 v8) (World.drew w) fun v9 =>
 PUR prog (fieldAt 91 x3 1) fun v10 =>
 LD prog (loadAt 9 v10) (World.drew w) fun v11 =>
 LD prog (lookup 82 v9 v11 false) (World.drew w) fun v12 =>
 PUR prog (bins .gtr 3 (.tmp 18) (.const (Value.int .i64 0)) v12 (Value.int .i64 0)) fun v13 =>
 b5 R x0 x3 v13 (World.drew w)
def b4 (R:EP) (x0 x3:Value) (w:World) (_r:Tok R:=tok R):Prop :=
 PUR prog (fieldAt 91 x3 0) fun v1 =>
 LD prog (loadAt 3 v1) (World.drew w) fun v2 =>
 PUR prog (bins .eql 3 (.tmp 6) (.const (Value.int .i64 1)) v2 (Value.int .i64 1)) fun v3 =>
 SPL v3
 (b4_1 R x0 x3 w)
 (b5 R x0 x3 (Value.bool false) (World.drew w))
theorem b4_ok (R:EP):TI prog R (fstC p1) (q2 R) fun z w=>b4 R (z 0) (z 3) w:=appT 0 (b5_ok R)
theorem k2_ok (R:EP):TI prog R p1 (q1 R) fun z w=>b4 R (z 0) (z 3) w:=seqT (b4_ok R) (b3_ok R)
def b1 (R:EP) (x0 x1:Value) (w:World) (_r:Tok R:=tok R):Prop :=
 RUN prog R (box 91 x1) w fun v1 w2 =>
 b4 R x0 v1 w2
theorem b1_ok (R:EP):TI prog R code (q1 R) fun z w=>b1 R (z 0) (z 1) w:=appT 0 (k2_ok R)
def run (R:EP) (a0 a1:Value) (w:World):Prop:=b1 R a0 a1 w
theorem calls (R:EP) (a0 a1:Value) (w:World) (h:run R a0 a1 w):Calls prog id #[a0,a1] w R:=cls_t func48 [a0,a1] (b1_ok R _ w h)
theorem enters:Enters prog id:=fun args w=>call48 args w
theorem ct {a0 a1:Value} {w:World} {S:VP} (h:∀R:EP,(∀v w,S v w→R (.returned v) w)→run R a0 a1 w):Ct prog id #[a0,a1] w S :=
 Ct.intro enters fun R hR=>calls R a0 a1 w (h R hR)
attribute [irreducible,go_sem] b3_1 b3 b5_1 b5_2 b5 b4_1 b4 b1 run
end spec_maker_symbol

/-! ### (*presage/spec.reader).now -/
namespace spec_reader_now
noncomputable def code:Code:=bodyOf f73
def b1_1 (R:EP) (x0 v1:Value) (w2:World) (_r:Tok R:=tok R):Prop :=
 NILC x0 fun v11 =>
 PUR prog (fieldAt 87 v11 0) fun v12 =>
 LD prog (loadAt 83 v12) (World.drew (World.drew w2)) fun v13 =>
 NILC x0 fun v14 =>
 PUR prog (fieldAt 87 v14 1) fun v15 =>
 LD prog (loadAt 3 v15) (World.drew (World.drew w2)) fun v16 =>
 PUR prog (indexAt 83 v13 v16) fun v17 =>
 LD prog (loadAt 91 v17) (World.drew (World.drew w2)) fun v18 =>
 RUNU prog R (storeAt 91 v1 v18) (World.drew (World.drew w2)) fun w19 =>
 LD prog (loadAt 91 v1) w19 fun r0=>R (.returned r0) w19
def b1_2 (R:EP) (x0 v1:Value) (w2:World) (_r:Tok R:=tok R):Prop :=
 NILC x0 fun v20 =>
 RUN prog R (fieldAt 87 v20 2) (World.drew w2) fun v21 w22 =>
 RUN prog R (loadAt 3 v21) w22 fun v23 w24 =>
 RUN prog R (build 91 #[(2,v23)]) w24 fun v25 w26 =>
 RUNU prog R (storeAt 91 v1 v25) w26 fun w27 =>
 LD prog (loadAt 91 v1) w27 fun r0=>R (.returned r0) w27
def b1 (R:EP) (x0:Value) (w:World) (_r:Tok R:=tok R):Prop :=
 RUN prog R (alloc 91 true (.tuple #[])) w fun v1 w2 =>
 NILC x0 fun v3 =>
 PUR prog (fieldAt 87 v3 1) fun v4 =>
 LD prog (loadAt 3 v4) (World.drew w2) fun v5 =>
 NILC x0 fun v6 =>
 PUR prog (fieldAt 87 v6 0) fun v7 =>
 LD prog (loadAt 83 v7) (World.drew w2) fun v8 =>
 LD prog (Builtin.len_ #[83] 3 #[v8]) (World.drew w2) fun v9 =>
 PUR prog (bins .lss 3 (.tmp 6) (.tmp 11) v5 v9) fun v10 =>
 SPL v10
 (b1_1 R x0 v1 w2)
 (b1_2 R x0 v1 w2)
abbrev r0 (R:EP) (z:Env) (w:World):Prop:=LD prog (loadAt 91 (z 2)) w fun r0=>R (.returned r0) w
abbrev q1 (R:EP):XP:=QX (r0 R) (r0 R) []
theorem b1_ok (R:EP):TI prog R code (q1 R) fun z w=>b1 R (z 0) w:=ofT
def run (R:EP) (a0:Value) (w:World):Prop:=b1 R a0 w
theorem calls (R:EP) (a0:Value) (w:World) (h:run R a0 w):Calls prog id #[a0] w R :=
 calls_of_c (f:=id) (fn:=f73) (c:=code) (by kernel_rfl) func73 (by kernel_rfl) (by kernel_rfl) (args:=[a0]) (Nat.le_of_ble_eq_true rfl) rfl (b1_ok R (envOf [a0]) w h)
theorem enters:Enters prog id:=fun args w=>call73 args w
theorem ct {a0:Value} {w:World} {S:VP} (h:∀R:EP,(∀v w,S v w→R (.returned v) w)→run R a0 w):Ct prog id #[a0] w S :=
 Ct.intro enters fun R hR=>calls R a0 w (h R hR)
attribute [irreducible,go_sem] b1_1 b1_2 b1 run
end spec_reader_now

/-! ### (*presage/spec.reader).header -/
namespace spec_reader_header
noncomputable def code:Code:=bodyOf f74
noncomputable abbrev p1:Code:=dropC 3 code
noncomputable abbrev p2:Code:=dropC 2 (sndC p1)
noncomputable abbrev p3:Code:=dropC 1 p2
def b6_1 (R:EP) (x0 x6:Value) (w2:World) (_r:Tok R:=tok R):Prop :=
 NILC x0 fun v3 =>
 PUR prog (fieldAt 87 v3 4) fun v4 =>
 LD prog (loadAt 84 v4) (World.drew w2) fun v5 =>
 LD prog (loadAt 106 x6) (World.drew w2) fun v6 =>
 RUN prog R (buildSlice 84 1 #[(0,v6)]) (World.drew w2) fun v7 w8 =>
 Sem.run prog (loadAt 84 v4) w8 = .ok v5 w8∧(RUN prog R (Builtin.append_ #[84,84] 84 #[v5,v7]) w8 fun v9 w10 =>
 NILC x0 fun v11 =>
 PUR prog (fieldAt 87 v11 4) fun v12 =>
 RUNU prog R (storeAt 84 v12 v9) w10 fun w13 =>
 R (.returned (.tuple #[])) w13)

def b6 (R:EP) (x0 x6:Value) (w:World) (_r:Tok R:=tok R):Prop :=
 CALL prog R spec_reader_need.id #[x0,(Value.string ⟨#[59]⟩)] w fun v1 w2 =>
 b6_1 R x0 x6 w2
abbrev r0 (R:EP) (z:Env) (w:World):Prop:=R (.returned (.tuple #[])) w
abbrev q1 (R:EP):XP:=QX (r0 R) (r0 R) []
theorem b6_ok (R:EP):TI prog R (sndC p3) (q1 R) fun z w=>b6 R (z 0) (z 6) w:=ofT
noncomputable abbrev p4:Code:=blkC (fstC p3)
noncomputable abbrev p5:Code:=dropC 1 (loopC p4)
noncomputable abbrev p6:Code:=dropC 1 (blkC p5)

def b13 (R:EP) (C8:World→Prop) (x0 x4 x6 x7:Value) (w:World) (_r:Tok R:=tok R) (_C8:Tok C8:=tok C8):Prop :=
 NILC x0 fun v1 =>
 RUN prog R (fieldAt 87 v1 3) w fun v2 w3 =>
 RUN prog R (loadAt 82 v2) w3 fun v4 w5 =>
 RUN prog R (Builtin.min_ #[3,3] 3 #[x4,(Value.int .i64 1)]) w5 fun v6 w7 =>
 RUN prog R (bins .add 3 (.tmp 95) (.const (Value.int .i64 1)) v6 (Value.int .i64 1)) w7 fun v8 w9 =>
 RUNU prog R (mapUpdate 82 v4 x7 v8) w9 fun w10 =>
 RUN prog R (fieldAt 106 x6 1) w10 fun v11 w12 =>
 RUN prog R (loadAt 24 v11) w12 fun v13 w14 =>
 RUN prog R (buildSlice 24 1 #[(0,x7)]) w14 fun v15 w16 =>
 RUN prog R (Builtin.append_ #[24,24] 24 #[v13,v15]) w16 fun v17 w18 =>
 RUN prog R (fieldAt 106 x6 1) w18 fun v19 w20 =>
 RUNU prog R (storeAt 24 v19 v17) w20 fun w21 =>
 NILC x0 fun v22 =>
 RUN prog R (fieldAt 87 v22 1) w21 fun v23 w24 =>
 RUN prog R (loadAt 3 v23) w24 fun v25 w26 =>
 RUN prog R (bins .add 3 (.tmp 106) (.const (Value.int .i64 1)) v25 (Value.int .i64 1)) w26 fun v27 w28 =>
 NILC x0 fun v29 =>
 RUN prog R (fieldAt 87 v29 1) w28 fun v30 w31 =>
 RUNU prog R (storeAt 3 v30 v27) w31 fun w32 =>
 C8  w32
abbrev q2 (R:EP) (C8:World→Prop):XP:=QX (fun z w=>C8  w) (r0 R) [(4,(fun z w=>C8  w)),(2,(fun z w=>b6 R (z 0) (z 6) w))]
theorem b13_ok (R:EP) (C8:World→Prop):TI prog R (sndC p6) (q2 R C8) fun z w=>b13 R C8 (z 0) (z 4) (z 6) (z 7) w:=ofT
noncomputable abbrev p7:Code:=dropC 1 (fstC p6)

def b15 (R:EP) (C8:World→Prop) (x0 x4 x6 x7 x86:Value) (w:World) (_r:Tok R:=tok R) (_C8:Tok C8:=tok C8):Prop :=
 SPL x86
 (CALL prog R spec_reader_fail.id #[x0] w fun v1 w2 =>
 b13 R C8 x0 x4 x6 x7 w2)
 (b13 R C8 x0 x4 x6 x7 w)
abbrev q3 (R:EP) (C8:World→Prop):XP:=QX (fun z w=>b13 R C8 (z 0) (z 4) (z 6) (z 7) w) (r0 R) [(4,(fun z w=>C8  w)),(2,(fun z w=>b6 R (z 0) (z 6) w))]
theorem b15_ok (R:EP) (C8:World→Prop):TI prog R p7 (q3 R C8) fun z w=>b15 R C8 (z 0) (z 4) (z 6) (z 7) (z 86) w:=ofT
def b14_1 (R:EP) (C8:World→Prop) (x0 x4 x6 x7:Value) (w11:World) (_r:Tok R:=tok R) (_C8:Tok C8:=tok C8):Prop :=
 NILC x0 fun v12 =>
 RUN prog R (fieldAt 87 v12 3) w11 fun v13 w14 =>
 RUN prog R (loadAt 82 v13) w14 fun v15 w16 =>
 RUN prog R (lookup 82 v15 x7 false) w16 fun v17 w18 =>
 RUN prog R (bins .gtr 3 (.tmp 83) (.const (Value.int .i64 0)) v17 (Value.int .i64 0)) w18 fun v19 w20 =>
 b15 R C8 x0 x4 x6 x7 v19 w20

def b14 (R:EP) (C8:World→Prop) (x0 x4 x6 x7:Value) (w:World) (_r:Tok R:=tok R) (_C8:Tok C8:=tok C8):Prop :=
 NILC x0 fun v1 =>
 RUN prog R (fieldAt 87 v1 3) w fun v2 w3 =>
 RUN prog R (loadAt 82 v2) w3 fun v4 w5 =>
 RUN prog R (lookup 82 v4 x7 false) w5 fun v6 w7 =>
 RUN prog R (bins .eql 3 (.tmp 72) (.const (Value.int .i64 2)) v6 (Value.int .i64 2)) w7 fun v8 w9 =>
 SPL v8
 (b15 R C8 x0 x4 x6 x7 (Value.bool true) w9)
 (RUN prog R (bins .eql 3 (.tmp 75) (.const (Value.int .i64 0)) x4 (Value.int .i64 0)) w9 fun v10 w11 =>
 SPL v10
 (b14_1 R C8 x0 x4 x6 x7 w11)
 (b15 R C8 x0 x4 x6 x7 (Value.bool false) w11))
theorem b14_ok (R:EP) (C8:World→Prop):TI prog R (fstC p6) (q3 R C8) fun z w=>b14 R C8 (z 0) (z 4) (z 6) (z 7) w:=appT 0 (b15_ok R C8)
theorem k12_ok (R:EP) (C8:World→Prop):TI prog R p6 (q2 R C8) fun z w=>b14 R C8 (z 0) (z 4) (z 6) (z 7) w:=seqT (b14_ok R C8) (b13_ok R C8)

def b11 (R:EP) (C8:World→Prop) (x0 x4 x6:Value) (w:World) (_r:Tok R:=tok R) (_C8:Tok C8:=tok C8):Prop :=
 CALL prog R spec_reader_now.id #[x0] w fun v1 w2 =>
 RUN prog R (field 91 v1 1) w2 fun v3 w4 =>
 b14 R C8 x0 x4 x6 v3 w4
theorem b11_ok (R:EP) (C8:World→Prop):TI prog R (blkC p5) (q2 R C8) fun z w=>b11 R C8 (z 0) (z 4) (z 6) w:=appT 0 (k12_ok R C8)
abbrev q4 (R:EP) (C8:World→Prop):XP:=QX (fun z w=>C8  w) (r0 R) [(2,(fun z w=>b6 R (z 0) (z 6) w))]
theorem k10_ok (R:EP) (C8:World→Prop):TI prog R p5 (q4 R C8) fun z w=>b11 R C8 (z 0) (z 4) (z 6) w:=blockT 2 (b11_ok R C8)

def b9 (R:EP) (C8:World→Prop) (x0 x4 x6:Value) (w:World) (_r:Tok R:=tok R) (_C8:Tok C8:=tok C8):Prop :=
 CALL prog R spec_reader_isT.id #[x0] w fun v1 w2 =>
 SPL v1
 (b11 R C8 x0 x4 x6 w2)
 (b6 R x0 x6 w2)
theorem b9_ok (R:EP) (C8:World→Prop):TI prog R (loopC p4) (q4 R C8) fun z w=>b9 R C8 (z 0) (z 4) (z 6) w:=appT 0 (k10_ok R C8)

def l8 (R:EP) (x0 x4 x6:Value) (w:World) (_r:Tok R:=tok R):Prop :=
 ∃(J:World→Prop) (μ:World→Nat),J  w∧∀w0,J  w0→b9 R (fun  w1=>J  w1∧μ  w1<μ  w0) x0 x4 x6 w0
abbrev q5 (R:EP):XP:=QX (fun z w=>b6 R (z 0) (z 6) w) (r0 R) [(2,(fun z w=>b6 R (z 0) (z 6) w))]
theorem l8_ok (R:EP):TI prog R p4 (q5 R) fun z w=>l8 R (z 0) (z 4) (z 6) w:=fun z w h=>by
 unfold l8 at h
 obtain ⟨J,μ,h0,hr⟩:=h
 refine loopT (fun z' w'=>J  w') (fun z' w'=>μ  w') h0 fun z' w' hA hI=>b9_ok R (fun  w1=>J  w1∧μ  w1<μ  w') z' w' ?_
 have h1:=hr  w' hI
 rwa [←hA.on 0,←hA.on 4,←hA.on 6] at h1
theorem l8_intro (R:EP) (x0 x4 x6:Value) (w:World) (J:World→Prop) (μ:World→Nat) (h0:J  w)
   (hr:∀w0,J  w0→∀C8:World→Prop,(∀w1,J  w1→μ  w1<μ  w0→C8  w1)→b9 R C8 x0 x4 x6 w0):l8 R x0 x4 x6 w:=by
 unfold l8
 exact ⟨J,μ,h0,fun  w0 hJ=>hr  w0 hJ _ (fun  w1 h1 h2=>⟨h1,h2⟩)⟩
abbrev q6 (R:EP):XP:=QX (fun z w=>b6 R (z 0) (z 6) w) (r0 R) []
theorem k7_ok (R:EP):TI prog R (fstC p3) (q6 R) fun z w=>l8 R (z 0) (z 4) (z 6) w:=blockT 1 (l8_ok R)
theorem k5_ok (R:EP):TI prog R p3 (q1 R) fun z w=>l8 R (z 0) (z 4) (z 6) w:=seqT (k7_ok R) (b6_ok R)

def b4 (R:EP) (x0 x4:Value) (w:World) (_r:Tok R:=tok R):Prop :=
 RUN prog R (build 106 #[(0,x4)]) w fun v1 w2 =>
 RUN prog R (alloc 106 true (.tuple #[])) w2 fun v3 w4 =>
 RUNU prog R (storeAt 106 v3 v1) w4 fun w5 =>
 l8 R x0 x4 v3 w5
theorem b4_ok (R:EP):TI prog R p2 (q1 R) fun z w=>b4 R (z 0) (z 4) w:=appT 0 (k5_ok R)
def b3_1 (R:EP) (x0 x4 v12:Value) (w13:World) (_r:Tok R:=tok R):Prop :=
 RUN prog R (Op.unary .not v12) w13 fun v14 w15 =>
 SPL v14
 (CALL prog R spec_reader_fail.id #[x0] w15 fun v16 w17 =>
 b4 R x0 x4 w17)
 (b4 R x0 x4 w15)

def b3 (R:EP) (x0 x4:Value) (w:World) (_r:Tok R:=tok R):Prop :=
 NILC x0 fun v1 =>
 RUN prog R (fieldAt 87 v1 1) w fun v2 w3 =>
 RUN prog R (loadAt 3 v2) w3 fun v4 w5 =>
 RUN prog R (bins .add 3 (.tmp 51) (.const (Value.int .i64 1)) v4 (Value.int .i64 1)) w5 fun v6 w7 =>
 NILC x0 fun v8 =>
 RUN prog R (fieldAt 87 v8 1) w7 fun v9 w10 =>
 RUNU prog R (storeAt 3 v9 v6) w10 fun w11 =>
 CALL prog R spec_reader_isT.id #[x0] w11 fun v12 w13 =>
 b3_1 R x0 x4 v12 w13
theorem b3_ok (R:EP):TI prog R (sndC p1) (q1 R) fun z w=>b3 R (z 0) (z 4) w:=appT 1 (b4_ok R)
noncomputable abbrev p8:Code:=blkC (fstC p1)
noncomputable abbrev p9:Code:=dropC 1 p8
def b18_1 (R:EP) (x0 v12:Value) (w13:World) (_r:Tok R:=tok R):Prop :=
 NILC x0 fun v14 =>
 RUN prog R (fieldAt 87 v14 5) w13 fun v15 w16 =>
 RUNU prog R (storeAt 9 v15 v12) w16 fun w17 =>
 CALL prog R spec_reader_need.id #[x0,(Value.string ⟨#[59]⟩)] w17 fun v18 w19 =>
 R (.returned (.tuple #[])) w19
def b18_2 (R:EP) (x0:Value) (w:World) (_r:Tok R:=tok R):Prop :=
 NILC x0 fun v1 =>
 RUN prog R (fieldAt 87 v1 1) w fun v2 w3 =>
 RUN prog R (loadAt 3 v2) w3 fun v4 w5 =>
 RUN prog R (bins .add 3 (.tmp 32) (.const (Value.int .i64 1)) v4 (Value.int .i64 1)) w5 fun v6 w7 =>
 NILC x0 fun v8 =>
 RUN prog R (fieldAt 87 v8 1) w7 fun v9 w10 =>
 RUNU prog R (storeAt 3 v9 v6) w10 fun w11 =>
 CALL prog R spec_reader_name.id #[x0] w11 fun v12 w13 =>
 b18_1 R x0 v12 w13
def b18_3 (R:EP) (x0 x4 x5:Value) (w:World) (_r:Tok R:=tok R):Prop :=
 RUN prog R (Op.unary .not x5) w fun v20 w21 =>
 SPL v20
 (CALL prog R spec_reader_fail.id #[x0] w21 fun v22 w23 =>
 b3 R x0 x4 w23)
 (b3 R x0 x4 w21)

def b18 (R:EP) (x0 x4 x5 x19:Value) (w:World) (_r:Tok R:=tok R):Prop :=
 SPL x19
 (b18_2 R x0 w)
 (b18_3 R x0 x4 x5 w)
abbrev q7 (R:EP):XP:=QX (fun z w=>b3 R (z 0) (z 4) w) (r0 R) [(0,(fun z w=>b3 R (z 0) (z 4) w))]
theorem b18_ok (R:EP):TI prog R p9 (q7 R) fun z w=>b18 R (z 0) (z 4) (z 5) (z 19) w:=ofT
def b17_1 (R:EP) (x0 x4 x5:Value) (w2:World) (_r:Tok R:=tok R):Prop :=
 NILC x0 fun v3 =>
 RUN prog R (fieldAt 87 v3 5) w2 fun v4 w5 =>
 RUN prog R (loadAt 9 v4) w5 fun v6 w7 =>
 RUN prog R (bins .eql 9 (.tmp 26) (.const (Value.string ⟨#[]⟩)) v6 (Value.string ⟨#[]⟩)) w7 fun v8 w9 =>
 b18 R x0 x4 x5 v8 w9

def b17 (R:EP) (x0 x3 x4 x5:Value) (w:World) (_r:Tok R:=tok R):Prop :=
 RUN prog R (bins .eql 9 (.tmp 20) (.const (Value.string ⟨#[37,115,116,97,114,116]⟩)) x3 (Value.string ⟨#[37,115,116,97,114,116]⟩)) w fun v1 w2 =>
 SPL v1
 (b17_1 R x0 x4 x5 w2)
 (b18 R x0 x4 x5 (Value.bool false) w2)
theorem b17_ok (R:EP):TI prog R p8 (q7 R) fun z w=>b17 R (z 0) (z 3) (z 4) (z 5) w:=appT 0 (b18_ok R)
abbrev q8 (R:EP):XP:=QX (fun z w=>b3 R (z 0) (z 4) w) (r0 R) []
theorem k16_ok (R:EP):TI prog R (fstC p1) (q8 R) fun z w=>b17 R (z 0) (z 3) (z 4) (z 5) w:=blockT 0 (b17_ok R)
theorem k2_ok (R:EP):TI prog R p1 (q1 R) fun z w=>b17 R (z 0) (z 3) (z 4) (z 5) w:=seqT (k16_ok R) (b3_ok R)
def b1_1 (R:EP) (x0 v1 v7:Value) (w8:World) (_r:Tok R:=tok R):Prop :=
 RUN prog R (field 91 v7 1) w8 fun v9 w10 =>
 RUN prog R (lookup 82 v1 v9 true) w10 fun v11 w12 =>
 RUN prog R (extract v11 0) w12 fun v13 w14 =>
 RUN prog R (extract v11 1) w14 fun v15 w16 =>
 b17 R x0 v9 v13 v15 w16

def b1 (R:EP) (x0:Value) (w:World) (_r:Tok R:=tok R):Prop :=
 RUN prog R (makeMap 82 none) w fun v1 w2 =>
 RUNU prog R (mapUpdate 82 v1 (Value.string ⟨#[37,116,111,107,101,110]⟩) (Value.int .i64 0)) w2 fun w3 =>
 RUNU prog R (mapUpdate 82 v1 (Value.string ⟨#[37,108,101,102,116]⟩) (Value.int .i64 1)) w3 fun w4 =>
 RUNU prog R (mapUpdate 82 v1 (Value.string ⟨#[37,114,105,103,104,116]⟩) (Value.int .i64 2)) w4 fun w5 =>
 RUNU prog R (mapUpdate 82 v1 (Value.string ⟨#[37,110,111,110,97,115,115,111,99]⟩) (Value.int .i64 3)) w5 fun w6 =>
 CALL prog R spec_reader_now.id #[x0] w6 fun v7 w8 =>
 b1_1 R x0 v1 v7 w8
theorem b1_ok (R:EP):TI prog R code (q1 R) fun z w=>b1 R (z 0) w:=appT 2 (k2_ok R)
def run (R:EP) (a0:Value) (w:World):Prop:=b1 R a0 w
theorem calls (R:EP) (a0:Value) (w:World) (h:run R a0 w):Calls prog id #[a0] w R:=cls_0 func74 [a0] (b1_ok R _ w h)
theorem enters:Enters prog id:=fun args w=>call74 args w
theorem ct {a0:Value} {w:World} {S:VP} (h:∀R:EP,(∀v w,S v w→R (.returned v) w)→run R a0 w):Ct prog id #[a0] w S :=
 Ct.intro enters fun R hR=>calls R a0 w (h R hR)
attribute [irreducible] l8
attribute [irreducible,go_sem] b6_1 b6 b13 b15 b14_1 b14 b11 b9 b4 b3_1 b3 b18_1 b18_2 b18_3 b18 b17_1 b17 b1_1 b1 run
end spec_reader_header

/-! ### (*presage/spec.reader).rule -/
namespace spec_reader_rule
noncomputable def code:Code:=bodyOf f75
noncomputable abbrev p1:Code:=dropC 3 code

def b3 (R:EP) (x0:Value) (w:World) (_r:Tok R:=tok R):Prop :=
 CALL prog R spec_reader_need.id #[x0,(Value.string ⟨#[59]⟩)] w fun v1 w2 =>
 R (.returned (.tuple #[])) w2
abbrev r0 (R:EP) (z:Env) (w:World):Prop:=R (.returned (.tuple #[])) w
abbrev q1 (R:EP):XP:=QX (r0 R) (r0 R) []
theorem b3_ok (R:EP):TI prog R (sndC p1) (q1 R) fun z w=>b3 R (z 0) w:=ofT
noncomputable abbrev p2:Code:=blkC (fstC p1)
noncomputable abbrev p3:Code:=blkC (loopC p2)
noncomputable abbrev p4:Code:=dropC 1 p3
noncomputable abbrev p5:Code:=sndC (sndC p4)
def b10_1 (R:EP) (C5:World→Prop) (x0:Value) (w15:World) (_r:Tok R:=tok R) (_C5:Tok C5:=tok C5):Prop :=
 NILC x0 fun v16 =>
 RUN prog R (fieldAt 87 v16 1) w15 fun v17 w18 =>
 RUN prog R (loadAt 3 v17) w18 fun v19 w20 =>
 RUN prog R (bins .add 3 (.tmp 84) (.const (Value.int .i64 1)) v19 (Value.int .i64 1)) w20 fun v21 w22 =>
 NILC x0 fun v23 =>
 RUN prog R (fieldAt 87 v23 1) w22 fun v24 w25 =>
 RUNU prog R (storeAt 3 v24 v21) w25 fun w26 =>
 C5  w26

def b10 (R:EP) (C5:World→Prop) (x0 x3:Value) (w:World) (_r:Tok R:=tok R) (_C5:Tok C5:=tok C5):Prop :=
 NILC x0 fun v1 =>
 PUR prog (fieldAt 87 v1 7) fun v2 =>
 LD prog (loadAt 85 v2) (World.drew w) fun v3 =>
 LD prog (loadAt 112 x3) (World.drew w) fun v4 =>
 RUN prog R (buildSlice 85 1 #[(0,v4)]) (World.drew w) fun v5 w6 =>
 Sem.run prog (loadAt 85 v2) w6 = .ok v3 w6∧(RUN prog R (Builtin.append_ #[85,85] 85 #[v3,v5]) w6 fun v7 w8 =>
 NILC x0 fun v9 =>
 PUR prog (fieldAt 87 v9 7) fun v10 =>
 RUNU prog R (storeAt 85 v10 v7) w8 fun w11 =>
 CALL prog R spec_reader_is.id #[x0,(Value.int .i64 4),(Value.string ⟨#[124]⟩)] w11 fun v12 w13 =>
 RUN prog R (Op.unary .not v12) w13 fun v14 w15 =>
 SPL v14
 (b3 R x0 w15)
 (b10_1 R C5 x0 w15))
abbrev q2 (R:EP) (C5:World→Prop):XP:=QX (fun z w=>C5  w) (r0 R) [(2,(fun z w=>C5  w)),(0,(fun z w=>b3 R (z 0) w))]
theorem b10_ok (R:EP) (C5:World→Prop):TI prog R p5 (q2 R C5) fun z w=>b10 R C5 (z 0) (z 3) w:=ofT
noncomputable abbrev p6:Code:=fstC (sndC p4)
noncomputable abbrev p7:Code:=dropC 1 p6

def b13 (R:EP) (C5:World→Prop) (x0 x3:Value) (w:World) (_r:Tok R:=tok R) (_C5:Tok C5:=tok C5):Prop :=
 RUN prog R (fieldAt 112 x3 3) w fun v1 w2 =>
 RUNU prog R (storeAt 4 v1 (Value.bool true)) w2 fun w3 =>
 NILC x0 fun v4 =>
 RUN prog R (fieldAt 87 v4 1) w3 fun v5 w6 =>
 RUN prog R (loadAt 3 v5) w6 fun v7 w8 =>
 RUN prog R (bins .add 3 (.tmp 39) (.const (Value.int .i64 1)) v7 (Value.int .i64 1)) w8 fun v9 w10 =>
 NILC x0 fun v11 =>
 RUN prog R (fieldAt 87 v11 1) w10 fun v12 w13 =>
 RUNU prog R (storeAt 3 v12 v9) w13 fun w14 =>
 b10 R C5 x0 x3 w14
abbrev q3 (R:EP) (C5:World→Prop):XP:=QX (fun z w=>b10 R C5 (z 0) (z 3) w) (r0 R) [(2,(fun z w=>C5  w)),(0,(fun z w=>b3 R (z 0) w))]
theorem b13_ok (R:EP) (C5:World→Prop):TI prog R (thnC p7) (q3 R C5) fun z w=>b13 R C5 (z 0) (z 3) w:=ofT
noncomputable abbrev p8:Code:=dropC 1 (elsC p7)
noncomputable abbrev p9:Code:=dropC 2 (thnC p8)
def b17_1 (R:EP) (C5:World→Prop) (x0 x3 v1:Value) (w2:World) (_r:Tok R:=tok R) (_C5:Tok C5:=tok C5):Prop :=
 RUN prog R (field 91 v1 1) w2 fun v3 w4 =>
 RUN prog R (fieldAt 112 x3 2) w4 fun v5 w6 =>
 RUNU prog R (storeAt 9 v5 v3) w6 fun w7 =>
 NILC x0 fun v8 =>
 RUN prog R (fieldAt 87 v8 1) w7 fun v9 w10 =>
 RUN prog R (loadAt 3 v9) w10 fun v11 w12 =>
 RUN prog R (bins .add 3 (.tmp 64) (.const (Value.int .i64 1)) v11 (Value.int .i64 1)) w12 fun v13 w14 =>
 NILC x0 fun v15 =>
 RUN prog R (fieldAt 87 v15 1) w14 fun v16 w17 =>
 RUNU prog R (storeAt 3 v16 v13) w17 fun w18 =>
 b10 R C5 x0 x3 w18

def b17 (R:EP) (C5:World→Prop) (x0 x3:Value) (w:World) (_r:Tok R:=tok R) (_C5:Tok C5:=tok C5):Prop :=
 CALL prog R spec_reader_now.id #[x0] w fun v1 w2 =>
 b17_1 R C5 x0 x3 v1 w2
theorem b17_ok (R:EP) (C5:World→Prop):TI prog R p9 (q3 R C5) fun z w=>b17 R C5 (z 0) (z 3) w:=ofT
def b16_1 (R:EP) (C5:World→Prop) (x0 x3 v12:Value) (w13:World) (_r:Tok R:=tok R) (_C5:Tok C5:=tok C5):Prop :=
 RUN prog R (Op.unary .not v12) w13 fun v14 w15 =>
 SPL v14
 (CALL prog R spec_reader_fail.id #[x0] w15 fun v16 w17 =>
 b17 R C5 x0 x3 w17)
 (b17 R C5 x0 x3 w15)

def b16 (R:EP) (C5:World→Prop) (x0 x3:Value) (w:World) (_r:Tok R:=tok R) (_C5:Tok C5:=tok C5):Prop :=
 NILC x0 fun v1 =>
 RUN prog R (fieldAt 87 v1 1) w fun v2 w3 =>
 RUN prog R (loadAt 3 v2) w3 fun v4 w5 =>
 RUN prog R (bins .add 3 (.tmp 48) (.const (Value.int .i64 1)) v4 (Value.int .i64 1)) w5 fun v6 w7 =>
 NILC x0 fun v8 =>
 RUN prog R (fieldAt 87 v8 1) w7 fun v9 w10 =>
 RUNU prog R (storeAt 3 v9 v6) w10 fun w11 =>
 CALL prog R spec_reader_isT.id #[x0] w11 fun v12 w13 =>
 b16_1 R C5 x0 x3 v12 w13
theorem b16_ok (R:EP) (C5:World→Prop):TI prog R (thnC p8) (q3 R C5) fun z w=>b16 R C5 (z 0) (z 3) w:=appT 1 (b17_ok R C5)

def b18 (R:EP) (C5:World→Prop) (x0 x3:Value) (w:World) (_r:Tok R:=tok R) (_C5:Tok C5:=tok C5):Prop :=
 b10 R C5 x0 x3 w
theorem b18_ok (R:EP) (C5:World→Prop):TI prog R (elsC p8) (q3 R C5) fun z w=>b18 R C5 (z 0) (z 3) w:=ofT

def b15 (R:EP) (C5:World→Prop) (x0 x3 x44:Value) (w:World) (_r:Tok R:=tok R) (_C5:Tok C5:=tok C5):Prop :=
 SPL x44 (b16 R C5 x0 x3 w) (b18 R C5 x0 x3 w)
theorem b15_ok (R:EP) (C5:World→Prop):TI prog R p8 (q3 R C5) fun z w=>b15 R C5 (z 0) (z 3) (z 44) w:=fun z w h=>by
 have e:Code.cond (.tmp 44) (thnC p8) (elsC p8)=p8:=by kernel_rfl
 rw [←e]
 exact condQ' h (fun h=>b16_ok R C5 z w h) (fun h=>b18_ok R C5 z w h)

def b14 (R:EP) (C5:World→Prop) (x0 x3:Value) (w:World) (_r:Tok R:=tok R) (_C5:Tok C5:=tok C5):Prop :=
 CALL prog R spec_reader_is.id #[x0,(Value.int .i64 3),(Value.string ⟨#[37,112,114,101,99]⟩)] w fun v1 w2 =>
 b15 R C5 x0 x3 v1 w2
theorem b14_ok (R:EP) (C5:World→Prop):TI prog R (elsC p7) (q3 R C5) fun z w=>b14 R C5 (z 0) (z 3) w:=appT 0 (b15_ok R C5)

def b12 (R:EP) (C5:World→Prop) (x0 x3 x34:Value) (w:World) (_r:Tok R:=tok R) (_C5:Tok C5:=tok C5):Prop :=
 SPL x34 (b13 R C5 x0 x3 w) (b14 R C5 x0 x3 w)
theorem b12_ok (R:EP) (C5:World→Prop):TI prog R p7 (q3 R C5) fun z w=>b12 R C5 (z 0) (z 3) (z 34) w:=fun z w h=>by
 have e:Code.cond (.tmp 34) (thnC p7) (elsC p7)=p7:=by kernel_rfl
 rw [←e]
 exact condQ' h (fun h=>b13_ok R C5 z w h) (fun h=>b14_ok R C5 z w h)

def b11 (R:EP) (C5:World→Prop) (x0 x3:Value) (w:World) (_r:Tok R:=tok R) (_C5:Tok C5:=tok C5):Prop :=
 CALL prog R spec_reader_is.id #[x0,(Value.int .i64 3),(Value.string ⟨#[37,110,111,110,101]⟩)] w fun v1 w2 =>
 b12 R C5 x0 x3 v1 w2
theorem b11_ok (R:EP) (C5:World→Prop):TI prog R p6 (q3 R C5) fun z w=>b11 R C5 (z 0) (z 3) w:=appT 0 (b12_ok R C5)
theorem k9_ok (R:EP) (C5:World→Prop):TI prog R (sndC p4) (q2 R C5) fun z w=>b11 R C5 (z 0) (z 3) w:=seqT (b11_ok R C5) (b10_ok R C5)
noncomputable abbrev p10:Code:=blkC (fstC p4)
def b21_1 (R:EP) (C20:World→Prop) (x0 x3 v3 v4 v5:Value) (w6:World) (_r:Tok R:=tok R) (_C20:Tok C20:=tok C20):Prop :=
 Sem.run prog (loadAt 83 v3) w6 = .ok v4 w6∧(RUN prog R (buildSlice 83 1 #[(0,v5)]) w6 fun v7 w8 =>
 Sem.run prog (loadAt 83 v3) w8 = .ok v4 w8∧(RUN prog R (Builtin.append_ #[83,83] 83 #[v4,v7]) w8 fun v9 w10 =>
 PUR prog (fieldAt 112 x3 1) fun v11 =>
 RUNU prog R (storeAt 83 v11 v9) w10 fun w12 =>
 NILC x0 fun v13 =>
 RUN prog R (fieldAt 87 v13 1) w12 fun v14 w15 =>
 RUN prog R (loadAt 3 v14) w15 fun v16 w17 =>
 RUN prog R (bins .add 3 (.tmp 29) (.const (Value.int .i64 1)) v16 (Value.int .i64 1)) w17 fun v18 w19 =>
 NILC x0 fun v20 =>
 RUN prog R (fieldAt 87 v20 1) w19 fun v21 w22 =>
 RUNU prog R (storeAt 3 v21 v18) w22 fun w23 =>
 C20  w23))
def b21_2 (R:EP) (C20:World→Prop) (x0 x3:Value) (w2:World) (_r:Tok R:=tok R) (_C20:Tok C20:=tok C20):Prop :=
 PUR prog (fieldAt 112 x3 1) fun v3 =>
 LD prog (loadAt 83 v3) (World.drew w2) fun v4 =>
 CALL prog R spec_reader_now.id #[x0] (World.drew w2) fun v5 w6 =>
 b21_1 R C20 x0 x3 v3 v4 v5 w6

def b21 (R:EP) (C5:World→Prop) (C20:World→Prop) (x0 x3:Value) (w:World) (_r:Tok R:=tok R) (_C5:Tok C5:=tok C5) (_C20:Tok C20:=tok C20):Prop :=
 CALL prog R spec_reader_isT.id #[x0] w fun v1 w2 =>
 SPL v1
 (b21_2 R C20 x0 x3 w2)
 (b11 R C5 x0 x3 w2)
abbrev q4 (R:EP) (C5:World→Prop) (C20:World→Prop):XP:=QX (fun z w=>C20  w) (r0 R) [(4,(fun z w=>b11 R C5 (z 0) (z 3) w)),(2,(fun z w=>C5  w)),(0,(fun z w=>b3 R (z 0) w))]
theorem b21_ok (R:EP) (C5:World→Prop) (C20:World→Prop):TI prog R (loopC p10) (q4 R C5 C20) fun z w=>b21 R C5 C20 (z 0) (z 3) w:=ofT

def l20 (R:EP) (C5:World→Prop) (x0 x3:Value) (w:World) (_r:Tok R:=tok R) (_C5:Tok C5:=tok C5):Prop :=
 ∃(J:World→Prop) (μ:World→Nat),J  w∧∀w0,J  w0→b21 R C5 (fun  w1=>J  w1∧μ  w1<μ  w0) x0 x3 w0
abbrev q5 (R:EP) (C5:World→Prop):XP:=QX (fun z w=>b11 R C5 (z 0) (z 3) w) (r0 R) [(4,(fun z w=>b11 R C5 (z 0) (z 3) w)),(2,(fun z w=>C5  w)),(0,(fun z w=>b3 R (z 0) w))]
theorem l20_ok (R:EP) (C5:World→Prop):TI prog R p10 (q5 R C5) fun z w=>l20 R C5 (z 0) (z 3) w:=fun z w h=>by
 unfold l20 at h
 obtain ⟨J,μ,h0,hr⟩:=h
 refine loopT (fun z' w'=>J  w') (fun z' w'=>μ  w') h0 fun z' w' hA hI=>b21_ok R C5 (fun  w1=>J  w1∧μ  w1<μ  w') z' w' ?_
 have h1:=hr  w' hI
 rwa [←hA.on 0,←hA.on 3] at h1
theorem l20_intro (R:EP) (C5:World→Prop) (x0 x3:Value) (w:World) (J:World→Prop) (μ:World→Nat) (h0:J  w)
   (hr:∀w0,J  w0→∀C20:World→Prop,(∀w1,J  w1→μ  w1<μ  w0→C20  w1)→b21 R C5 C20 x0 x3 w0):l20 R C5 x0 x3 w:=by
 unfold l20
 exact ⟨J,μ,h0,fun  w0 hJ=>hr  w0 hJ _ (fun  w1 h1 h2=>⟨h1,h2⟩)⟩
abbrev q6 (R:EP) (C5:World→Prop):XP:=QX (fun z w=>b11 R C5 (z 0) (z 3) w) (r0 R) [(2,(fun z w=>C5  w)),(0,(fun z w=>b3 R (z 0) w))]
theorem k19_ok (R:EP) (C5:World→Prop):TI prog R (fstC p4) (q6 R C5) fun z w=>l20 R C5 (z 0) (z 3) w:=blockT 2 (l20_ok R C5)
theorem k8_ok (R:EP) (C5:World→Prop):TI prog R p4 (q2 R C5) fun z w=>l20 R C5 (z 0) (z 3) w:=seqT (k19_ok R C5) (k9_ok R C5)

def b7 (R:EP) (C5:World→Prop) (x0 x2:Value) (w:World) (_r:Tok R:=tok R) (_C5:Tok C5:=tok C5):Prop :=
 RUN prog R (build 112 #[(0,x2)]) w fun v1 w2 =>
 RUN prog R (alloc 112 true (.tuple #[])) w2 fun v3 w4 =>
 RUNU prog R (storeAt 112 v3 v1) w4 fun w5 =>
 l20 R C5 x0 v3 w5
theorem b7_ok (R:EP) (C5:World→Prop):TI prog R p3 (q2 R C5) fun z w=>b7 R C5 (z 0) (z 2) w:=appT 0 (k8_ok R C5)
abbrev q7 (R:EP) (C5:World→Prop):XP:=QX (fun z w=>C5  w) (r0 R) [(0,(fun z w=>b3 R (z 0) w))]
theorem k6_ok (R:EP) (C5:World→Prop):TI prog R (loopC p2) (q7 R C5) fun z w=>b7 R C5 (z 0) (z 2) w:=blockT 1 (b7_ok R C5)

def l5 (R:EP) (x0 x2:Value) (w:World) (_r:Tok R:=tok R):Prop :=
 ∃(J:World→Prop) (μ:World→Nat),J  w∧∀w0,J  w0→b7 R (fun  w1=>J  w1∧μ  w1<μ  w0) x0 x2 w0
abbrev q8 (R:EP):XP:=QX (fun z w=>b3 R (z 0) w) (r0 R) [(0,(fun z w=>b3 R (z 0) w))]
theorem l5_ok (R:EP):TI prog R p2 (q8 R) fun z w=>l5 R (z 0) (z 2) w:=fun z w h=>by
 unfold l5 at h
 obtain ⟨J,μ,h0,hr⟩:=h
 refine loopT (fun z' w'=>J  w') (fun z' w'=>μ  w') h0 fun z' w' hA hI=>k6_ok R (fun  w1=>J  w1∧μ  w1<μ  w') z' w' ?_
 have h1:=hr  w' hI
 rwa [←hA.on 0,←hA.on 2] at h1
theorem l5_intro (R:EP) (x0 x2:Value) (w:World) (J:World→Prop) (μ:World→Nat) (h0:J  w)
   (hr:∀w0,J  w0→∀C5:World→Prop,(∀w1,J  w1→μ  w1<μ  w0→C5  w1)→b7 R C5 x0 x2 w0):l5 R x0 x2 w:=by
 unfold l5
 exact ⟨J,μ,h0,fun  w0 hJ=>hr  w0 hJ _ (fun  w1 h1 h2=>⟨h1,h2⟩)⟩
abbrev q9 (R:EP):XP:=QX (fun z w=>b3 R (z 0) w) (r0 R) []
theorem k4_ok (R:EP):TI prog R (fstC p1) (q9 R) fun z w=>l5 R (z 0) (z 2) w:=blockT 0 (l5_ok R)
theorem k2_ok (R:EP):TI prog R p1 (q1 R) fun z w=>l5 R (z 0) (z 2) w:=seqT (k4_ok R) (b3_ok R)
def b1_1 (R:EP) (x0 v1:Value) (w2:World) (_r:Tok R:=tok R):Prop :=
 NILC x0 fun v3 =>
 RUN prog R (fieldAt 87 v3 6) w2 fun v4 w5 =>
 RUN prog R (loadAt 82 v4) w5 fun v6 w7 =>
 RUN prog R (lookup 82 v6 v1 false) w7 fun v8 w9 =>
 RUN prog R (bins .add 3 (.tmp 11) (.const (Value.int .i64 1)) v8 (Value.int .i64 1)) w9 fun v10 w11 =>
 RUNU prog R (mapUpdate 82 v6 v1 v10) w11 fun w12 =>
 CALL prog R spec_reader_need.id #[x0,(Value.string ⟨#[58]⟩)] w12 fun v13 w14 =>
 l5 R x0 v1 w14

def b1 (R:EP) (x0:Value) (w:World) (_r:Tok R:=tok R):Prop :=
 CALL prog R spec_reader_name.id #[x0] w fun v1 w2 =>
 b1_1 R x0 v1 w2
theorem b1_ok (R:EP):TI prog R code (q1 R) fun z w=>b1 R (z 0) w:=appT 2 (k2_ok R)
def run (R:EP) (a0:Value) (w:World):Prop:=b1 R a0 w
theorem calls (R:EP) (a0:Value) (w:World) (h:run R a0 w):Calls prog id #[a0] w R:=cls_0 func75 [a0] (b1_ok R _ w h)
theorem enters:Enters prog id:=fun args w=>call75 args w
theorem ct {a0:Value} {w:World} {S:VP} (h:∀R:EP,(∀v w,S v w→R (.returned v) w)→run R a0 w):Ct prog id #[a0] w S :=
 Ct.intro enters fun R hR=>calls R a0 w (h R hR)
attribute [irreducible] l20 l5
attribute [irreducible,go_sem] b3 b10_1 b10 b13 b17_1 b17 b16_1 b16 b18 b15 b14 b12 b11 b21_1 b21_2 b21 b7 b1_1 b1 run
end spec_reader_rule

/-! ### (*presage/spec.reader).fail -/
namespace spec_reader_fail
noncomputable def code:Code:=bodyOf f76
def b1_1 (R:EP) (v1:Value) (w2:World) (_r:Tok R:=tok R):Prop :=
 RUN prog R (field 91 v1 2) w2 fun v3 w4 =>
 RUN prog R (build 95 #[(0,v3)]) w4 fun v5 w6 =>
 RUN prog R (makeInterface 95 v5) w6 fun v7 w8 =>
 RUN prog R (panic v7) w8 fun v9 w10 =>
 R (.returned (.tuple #[])) w10
def b1 (R:EP) (x0:Value) (w:World) (_r:Tok R:=tok R):Prop :=
 CALL prog R spec_reader_now.id #[x0] w fun v1 w2 =>
 b1_1 R v1 w2
abbrev r0 (R:EP) (z:Env) (w:World):Prop:=R (.returned (.tuple #[])) w
abbrev q1 (R:EP):XP:=QX (r0 R) (r0 R) []
theorem b1_ok (R:EP):TI prog R code (q1 R) fun z w=>b1 R (z 0) w:=ofT
def run (R:EP) (a0:Value) (w:World):Prop:=b1 R a0 w
theorem calls (R:EP) (a0:Value) (w:World) (h:run R a0 w):Calls prog id #[a0] w R:=cls_0 func76 [a0] (b1_ok R _ w h)
theorem enters:Enters prog id:=fun args w=>call76 args w
theorem ct {a0:Value} {w:World} {S:VP} (h:∀R:EP,(∀v w,S v w→R (.returned v) w)→run R a0 w):Ct prog id #[a0] w S :=
 Ct.intro enters fun R hR=>calls R a0 w (h R hR)
attribute [irreducible,go_sem] b1_1 b1 run
end spec_reader_fail

/-! ### (*presage/spec.reader).name -/
namespace spec_reader_name
noncomputable def code:Code:=bodyOf f97
noncomputable abbrev p1:Code:=dropC 3 code
def b2 (R:EP) (x0 x3:Value) (w:World) (_r:Tok R:=tok R):Prop :=
 NILC x0 fun v1 =>
 RUN prog R (fieldAt 87 v1 1) w fun v2 w3 =>
 RUN prog R (loadAt 3 v2) w3 fun v4 w5 =>
 RUN prog R (bins .add 3 (.tmp 14) (.const (Value.int .i64 1)) v4 (Value.int .i64 1)) w5 fun v6 w7 =>
 NILC x0 fun v8 =>
 RUN prog R (fieldAt 87 v8 1) w7 fun v9 w10 =>
 RUNU prog R (storeAt 3 v9 v6) w10 fun w11 =>
 RUN prog R (fieldAt 91 x3 1) w11 fun v12 w13 =>
 RUN prog R (loadAt 9 v12) w13 fun v14 w15 =>
 R (.returned v14) w15
abbrev r0 (R:EP) (z:Env) (w:World):Prop:=R (.returned (z 2)) w
abbrev q1 (R:EP):XP:=QX (r0 R) (r0 R) []
theorem b2_ok (R:EP):TI prog R p1 (q1 R) fun z w=>b2 R (z 0) (z 3) w:=ofT
def b1_1 (R:EP) (x0 v1:Value) (w2:World) (_r:Tok R:=tok R):Prop :=
 RUN prog R (alloc 91 true (.tuple #[])) w2 fun v3 w4 =>
 RUNU prog R (storeAt 91 v3 v1) w4 fun w5 =>
 RUN prog R (fieldAt 91 v3 0) w5 fun v6 w7 =>
 RUN prog R (loadAt 3 v6) w7 fun v8 w9 =>
 RUN prog R (bins .neq 3 (.tmp 7) (.const (Value.int .i64 1)) v8 (Value.int .i64 1)) w9 fun v10 w11 =>
 SPL v10
 (CALL prog R spec_reader_fail.id #[x0] w11 fun v12 w13 =>
 b2 R x0 v3 w13)
 (b2 R x0 v3 w11)
def b1 (R:EP) (x0:Value) (w:World) (_r:Tok R:=tok R):Prop :=
 CALL prog R spec_reader_now.id #[x0] w fun v1 w2 =>
 b1_1 R x0 v1 w2
theorem b1_ok (R:EP):TI prog R code (q1 R) fun z w=>b1 R (z 0) w:=appT 2 (b2_ok R)
def run (R:EP) (a0:Value) (w:World):Prop:=b1 R a0 w
theorem calls (R:EP) (a0:Value) (w:World) (h:run R a0 w):Calls prog id #[a0] w R:=cls_t func97 [a0] (b1_ok R _ w h)
theorem enters:Enters prog id:=fun args w=>call97 args w
theorem ct {a0:Value} {w:World} {S:VP} (h:∀R:EP,(∀v w,S v w→R (.returned v) w)→run R a0 w):Ct prog id #[a0] w S :=
 Ct.intro enters fun R hR=>calls R a0 w (h R hR)
attribute [irreducible,go_sem] b2 b1_1 b1 run
end spec_reader_name

/-! ### (*presage/spec.reader).need -/
namespace spec_reader_need
noncomputable def code:Code:=bodyOf f98
noncomputable abbrev p1:Code:=dropC 1 code
def b2 (R:EP) (x0:Value) (w:World) (_r:Tok R:=tok R):Prop :=
 NILC x0 fun v1 =>
 RUN prog R (fieldAt 87 v1 1) w fun v2 w3 =>
 RUN prog R (loadAt 3 v2) w3 fun v4 w5 =>
 RUN prog R (bins .add 3 (.tmp 13) (.const (Value.int .i64 1)) v4 (Value.int .i64 1)) w5 fun v6 w7 =>
 NILC x0 fun v8 =>
 RUN prog R (fieldAt 87 v8 1) w7 fun v9 w10 =>
 RUNU prog R (storeAt 3 v9 v6) w10 fun w11 =>
 R (.returned (.tuple #[])) w11
abbrev r0 (R:EP) (z:Env) (w:World):Prop:=R (.returned (.tuple #[])) w
abbrev q1 (R:EP):XP:=QX (r0 R) (r0 R) []
theorem b2_ok (R:EP):TI prog R p1 (q1 R) fun z w=>b2 R (z 0) w:=ofT
def b1_1 (R:EP) (x0 v1:Value) (w2:World) (_r:Tok R:=tok R):Prop :=
 RUN prog R (Op.unary .not v1) w2 fun v3 w4 =>
 SPL v3
 (CALL prog R spec_reader_fail.id #[x0] w4 fun v5 w6 =>
 b2 R x0 w6)
 (b2 R x0 w4)
def b1 (R:EP) (x0 x1:Value) (w:World) (_r:Tok R:=tok R):Prop :=
 CALL prog R spec_reader_is.id #[x0,(Value.int .i64 4),x1] w fun v1 w2 =>
 b1_1 R x0 v1 w2
theorem b1_ok (R:EP):TI prog R code (q1 R) fun z w=>b1 R (z 0) (z 1) w:=appT 0 (b2_ok R)
def run (R:EP) (a0 a1:Value) (w:World):Prop:=b1 R a0 a1 w
theorem calls (R:EP) (a0 a1:Value) (w:World) (h:run R a0 a1 w):Calls prog id #[a0,a1] w R:=cls_0 func98 [a0,a1] (b1_ok R _ w h)
theorem enters:Enters prog id:=fun args w=>call98 args w
theorem ct {a0 a1:Value} {w:World} {S:VP} (h:∀R:EP,(∀v w,S v w→R (.returned v) w)→run R a0 a1 w):Ct prog id #[a0,a1] w S :=
 Ct.intro enters fun R hR=>calls R a0 a1 w (h R hR)
attribute [irreducible,go_sem] b2 b1_1 b1 run
end spec_reader_need

/-! ### (*presage/spec.reader).isT -/
namespace spec_reader_isT
noncomputable def code:Code:=bodyOf f99
def b1_1 (R:EP) (v1:Value) (w2:World) (_r:Tok R:=tok R):Prop :=
 RUN prog R (field 91 v1 0) w2 fun v3 w4 =>
 RUN prog R (bins .eql 3 (.tmp 7) (.const (Value.int .i64 1)) v3 (Value.int .i64 1)) w4 fun v5 w6 =>
 SPL v5
 (R (.returned (Value.bool true)) w6)
 (RUN prog R (bins .eql 3 (.tmp 10) (.const (Value.int .i64 2)) v3 (Value.int .i64 2)) w6 fun v7 w8 =>
 R (.returned v7) w8)
def b1 (R:EP) (x0:Value) (w:World) (_r:Tok R:=tok R):Prop :=
 CALL prog R spec_reader_now.id #[x0] w fun v1 w2 =>
 b1_1 R v1 w2
abbrev r0 (R:EP) (z:Env) (w:World):Prop:=R (.returned (z 2)) w
abbrev q1 (R:EP):XP:=QX (r0 R) (r0 R) []
theorem b1_ok (R:EP):TI prog R code (q1 R) fun z w=>b1 R (z 0) w:=ofT
def run (R:EP) (a0:Value) (w:World):Prop:=b1 R a0 w
theorem calls (R:EP) (a0:Value) (w:World) (h:run R a0 w):Calls prog id #[a0] w R:=cls_t func99 [a0] (b1_ok R _ w h)
theorem enters:Enters prog id:=fun args w=>call99 args w
theorem ct {a0:Value} {w:World} {S:VP} (h:∀R:EP,(∀v w,S v w→R (.returned v) w)→run R a0 w):Ct prog id #[a0] w S :=
 Ct.intro enters fun R hR=>calls R a0 w (h R hR)
attribute [irreducible,go_sem] b1_1 b1 run
end spec_reader_isT

/-! ### (*presage/spec.reader).is -/
namespace spec_reader_is
noncomputable def code:Code:=bodyOf f100
def b1_1 (R:EP) (x2 v3:Value) (w11:World) (_r:Tok R:=tok R):Prop :=
 RUN prog R (fieldAt 91 v3 1) w11 fun v12 w13 =>
 RUN prog R (loadAt 9 v12) w13 fun v14 w15 =>
 RUN prog R (bins .eql 9 (.tmp 16) (.tmp 17) v14 x2) w15 fun v16 w17 =>
 R (.returned v16) w17
def b1_2 (R:EP) (x1 x2 v1:Value) (w2:World) (_r:Tok R:=tok R):Prop :=
 RUN prog R (alloc 91 true (.tuple #[])) w2 fun v3 w4 =>
 RUNU prog R (storeAt 91 v3 v1) w4 fun w5 =>
 RUN prog R (fieldAt 91 v3 0) w5 fun v6 w7 =>
 RUN prog R (loadAt 3 v6) w7 fun v8 w9 =>
 RUN prog R (bins .eql 3 (.tmp 11) (.tmp 12) v8 x1) w9 fun v10 w11 =>
 SPL v10
 (b1_1 R x2 v3 w11)
 (R (.returned (Value.bool false)) w11)
def b1 (R:EP) (x0 x1 x2:Value) (w:World) (_r:Tok R:=tok R):Prop :=
 CALL prog R spec_reader_now.id #[x0] w fun v1 w2 =>
 b1_2 R x1 x2 v1 w2
abbrev r0 (R:EP) (z:Env) (w:World):Prop:=R (.returned (z 6)) w
abbrev q1 (R:EP):XP:=QX (r0 R) (r0 R) []
theorem b1_ok (R:EP):TI prog R code (q1 R) fun z w=>b1 R (z 0) (z 1) (z 2) w:=ofT
def run (R:EP) (a0 a1 a2:Value) (w:World):Prop:=b1 R a0 a1 a2 w
theorem calls (R:EP) (a0 a1 a2:Value) (w:World) (h:run R a0 a1 a2 w):Calls prog id #[a0,a1,a2] w R:=cls_t func100 [a0,a1,a2] (b1_ok R _ w h)
theorem enters:Enters prog id:=fun args w=>call100 args w
theorem ct {a0 a1 a2:Value} {w:World} {S:VP} (h:∀R:EP,(∀v w,S v w→R (.returned v) w)→run R a0 a1 a2 w):Ct prog id #[a0,a1,a2] w S :=
 Ct.intro enters fun R hR=>calls R a0 a1 a2 w (h R hR)
attribute [irreducible,go_sem] b1_1 b1_2 b1 run
end spec_reader_is
end Go.Proofs.YtckbgeedlobfaaaDoor
