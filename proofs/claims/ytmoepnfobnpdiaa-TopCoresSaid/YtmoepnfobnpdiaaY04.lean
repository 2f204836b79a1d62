/-
  Texts of this claim: T02Ids, T02G, T02Lib, T02R, TC0.
-/
import Derived.Test.YtmoepnfobnpdiaaProg
import Derived.Test.YtmoepnfobnpdiaaY02
set_option linter.unusedVariables false
set_option maxRecDepth 100000
/- The functions' numbers, by name. -/
namespace Go.Proofs.Ytmoepnfobnpdiaa
abbrev main_main.id:FuncId:=0
abbrev gosem_cut.id:FuncId:=1
abbrev gosem_cut_init.id:FuncId:=2
abbrev top_TopCores.id:FuncId:=3
abbrev lr0_Build.id:FuncId:=4
abbrev ref02_Closed.id:FuncId:=5
abbrev top_useful.id:FuncId:=6
abbrev top_collection.id:FuncId:=7
abbrev top_core.id:FuncId:=8
abbrev ref09_SameItems.id:FuncId:=9
abbrev lr0_Closure.id:FuncId:=10
abbrev gram_Closed.id:FuncId:=11
abbrev lr0_of.id:FuncId:=12
abbrev lr0_table_intern.id:FuncId:=13
abbrev lr0_maker_kernels.id:FuncId:=14
abbrev slices_Sort_int_int.id:FuncId:=15
abbrev lr0_laid.id:FuncId:=16
abbrev slices_Clip_api_Edge_api_Edge.id:FuncId:=17
abbrev slices_Clip_api_State_api_State.id:FuncId:=18
abbrev ref02_fits.id:FuncId:=19
abbrev ref06_Useful.id:FuncId:=20
abbrev ref07_Table.id:FuncId:=21
abbrev top_canon_closure.id:FuncId:=22
abbrev ref02_Symbols.id:FuncId:=23
abbrev top_canon_behind.id:FuncId:=24
abbrev top_alike.id:FuncId:=25
abbrev lr0_maker_fits.id:FuncId:=26
abbrev lr0_maker_closure.id:FuncId:=27
abbrev gram_symbols.id:FuncId:=28
abbrev gram_productions.id:FuncId:=29
abbrev lr0_key.id:FuncId:=30
abbrev lr0_maker_behind.id:FuncId:=31
abbrev slices_pdqsortOrdered_int.id:FuncId:=32
abbrev math_bits_Len.id:FuncId:=33
abbrev slices_SortFunc_api_Item_api_Item.id:FuncId:=34
abbrev lr0_laid_1.id:FuncId:=35
abbrev cmp_Or_int.id:FuncId:=36
abbrev cmp_Compare_int.id:FuncId:=37
abbrev slices_Clip_api_Item_api_Item.id:FuncId:=38
abbrev slices_Compact_api_Item_api_Item.id:FuncId:=39
abbrev ref02_termsFit.id:FuncId:=40
abbrev ref02_levelsFit.id:FuncId:=41
abbrev ref02_nonsFit.id:FuncId:=42
abbrev ref02_prodsFit.id:FuncId:=43
abbrev ref02_lefts.id:FuncId:=44
abbrev ref02_Valid.id:FuncId:=45
abbrev ref06_Used.id:FuncId:=46
abbrev ref07_Null.id:FuncId:=47
abbrev ref07_Begin_lay.id:FuncId:=48
abbrev top_set_with.id:FuncId:=49
abbrev ref09_After.id:FuncId:=50
abbrev ref02_IsNon.id:FuncId:=51
abbrev ref07_Begin_Of.id:FuncId:=52
abbrev slices_Clone_api_Item_api_Item.id:FuncId:=53
abbrev gram_isTerm.id:FuncId:=54
abbrev gram_unlike.id:FuncId:=55
abbrev slices_ContainsFunc_string_string.id:FuncId:=56
abbrev gram_symbols_1.id:FuncId:=57
abbrev gram_isName.id:FuncId:=58
abbrev slices_Contains_int_int.id:FuncId:=59
abbrev slices_insertionSortOrdered_int.id:FuncId:=60
abbrev slices_heapSortOrdered_int.id:FuncId:=61
abbrev slices_breakPatternsOrdered_int.id:FuncId:=62
abbrev slices_choosePivotOrdered_int.id:FuncId:=63
abbrev slices_reverseRangeOrdered_int.id:FuncId:=64
abbrev slices_partialInsertionSortOrdered_int.id:FuncId:=65
abbrev cmp_Less_int.id:FuncId:=66
abbrev slices_partitionEqualOrdered_int.id:FuncId:=67
abbrev slices_partitionOrdered_int.id:FuncId:=68
abbrev math_bits_Len32.id:FuncId:=69
abbrev math_bits_Len64.id:FuncId:=70
abbrev slices_pdqsortCmpFunc_api_Item.id:FuncId:=71
abbrev cmp_isNaN_int.id:FuncId:=72
abbrev ref02_IsTerm.id:FuncId:=73
abbrev ref02_IsName.id:FuncId:=74
abbrev ref06_Marks.id:FuncId:=75
abbrev ref06_Fits.id:FuncId:=76
abbrev ref07_vanishes.id:FuncId:=77
abbrev top_before.id:FuncId:=78
abbrev strings_IndexFunc.id:FuncId:=79
abbrev gram_isTerm_1.id:FuncId:=80
abbrev slices_IndexFunc_string_string.id:FuncId:=81
abbrev slices_Index_int_int.id:FuncId:=82
abbrev slices_siftDownOrdered_int.id:FuncId:=83
abbrev slices_nextPowerOfTwo.id:FuncId:=84
abbrev slices_xorshift_Next.id:FuncId:=85
abbrev slices_medianAdjacentOrdered_int.id:FuncId:=86
abbrev slices_medianOrdered_int.id:FuncId:=87
abbrev slices_insertionSortCmpFunc_api_Item.id:FuncId:=88
abbrev slices_heapSortCmpFunc_api_Item.id:FuncId:=89
abbrev slices_breakPatternsCmpFunc_api_Item.id:FuncId:=90
abbrev slices_choosePivotCmpFunc_api_Item.id:FuncId:=91
abbrev slices_reverseRangeCmpFunc_api_Item.id:FuncId:=92
abbrev slices_partialInsertionSortCmpFunc_api_Item.id:FuncId:=93
abbrev slices_partitionEqualCmpFunc_api_Item.id:FuncId:=94
abbrev slices_partitionCmpFunc_api_Item.id:FuncId:=95
abbrev strings_indexFunc.id:FuncId:=96
abbrev slices_order2Ordered_int.id:FuncId:=97
abbrev slices_siftDownCmpFunc_api_Item.id:FuncId:=98
abbrev slices_medianAdjacentCmpFunc_api_Item.id:FuncId:=99
abbrev slices_medianCmpFunc_api_Item.id:FuncId:=100
abbrev slices_order2CmpFunc_api_Item.id:FuncId:=101
abbrev runtime_boundsError_Error.id:FuncId:=102
abbrev runtime_boundsError_RuntimeError.id:FuncId:=103
abbrev runtime_errorString_Error.id:FuncId:=104
abbrev runtime_errorString_RuntimeError.id:FuncId:=105
abbrev runtime_plainError_Error.id:FuncId:=106
abbrev runtime_plainError_RuntimeError.id:FuncId:=107
abbrev runtime_errorAddressString_Error.id:FuncId:=108
abbrev runtime_errorAddressString_RuntimeError.id:FuncId:=109
abbrev runtime_TypeAssertionError_Error.id:FuncId:=110
abbrev runtime_TypeAssertionError_RuntimeError.id:FuncId:=111
abbrev runtime_PanicNilError_Error.id:FuncId:=112
abbrev runtime_PanicNilError_RuntimeError.id:FuncId:=113
abbrev internal_abi_Type_Align.id:FuncId:=114
abbrev internal_runtime_maps_unhashableTypeError_Error.id:FuncId:=115
abbrev internal_runtime_maps_unhashableTypeError_RuntimeError.id:FuncId:=116
abbrev api_Errno_Error.id:FuncId:=117
abbrev internal_abi_Kind_String.id:FuncId:=118
end Go.Proofs.Ytmoepnfobnpdiaa

/- Shallow programs, written by a program of ours (gen.py) off the translation; each is tied to the code by the kernel. -/
namespace Go.Proofs.Ytmoepnfobnpdiaa
open Go.Px Try Instr

/-! ### presage/gram.isTerm -/
namespace gram_isTerm
noncomputable def code:Code:=bodyOf f54
def b1 (R:EP) (x0:Value) (w:World) (_r:Tok R:=tok R):Prop :=
 RUN prog R (bins .neq 9 (.tmp 3) (.const (Value.string ⟨#[]⟩)) x0 (Value.string ⟨#[]⟩)) w fun v1 w2 =>
 SPL v1
 (RUN prog R (Builtin.len_ #[9] 3 #[x0]) w2 fun v3 w4 =>
 RUN prog R (bins .leq 3 (.tmp 7) (.const (Value.int .i64 16)) v3 (Value.int .i64 16)) w4 fun v5 w6 =>
 SPL v5
 (CALL prog R strings_IndexFunc.id #[x0,(Value.func (.func gram_isTerm_1.id) #[] #[])] w6 fun v7 w8 =>
 RUN prog R (bins .lss 3 (.tmp 12) (.const (Value.int .i64 0)) v7 (Value.int .i64 0)) w8 fun v9 w10 =>
 R (.returned v9) w10)
 (R (.returned (Value.bool false)) w6))
 (R (.returned (Value.bool false)) w2)
abbrev r0 (R:EP) (z:Env) (w:World):Prop:=R (.returned (z 2)) w
abbrev q1 (R:EP):XP:=QX (r0 R) (r0 R) []
theorem b1_ok (R:EP):TI prog R code (q1 R) fun z w=>b1 R (z 0) w:=ofT
def run (R:EP) (a0:Value) (w:World):Prop:=b1 R a0 w
theorem calls (R:EP) (a0:Value) (w:World) (h:run R a0 w):Calls prog id #[a0] w R:=cls_t func54 [a0] (b1_ok R _ w h)
theorem enters:Enters prog id:=fun args w=>call54 args w
theorem ct {a0:Value} {w:World} {S:VP} (h:∀R:EP,(∀v w,S v w→R (.returned v) w)→run R a0 w):Ct prog id #[a0] w S :=
 Ct.intro enters fun R hR=>calls R a0 w (h R hR)
attribute [irreducible] b1 run
end gram_isTerm

/-! ### presage/gram.isName -/
namespace gram_isName
noncomputable def code:Code:=bodyOf f58
noncomputable abbrev p1:Code:=dropC 1 code
def b3 (R:EP) (x0:Value) (w:World) (_r:Tok R:=tok R):Prop :=
 RUN prog R (bins .neq 9 (.tmp 38) (.const (Value.string ⟨#[]⟩)) x0 (Value.string ⟨#[]⟩)) w fun v1 w2 =>
 SPL v1
 (RUN prog R (Builtin.len_ #[9] 3 #[x0]) w2 fun v3 w4 =>
 RUN prog R (bins .leq 3 (.tmp 42) (.const (Value.int .i64 16)) v3 (Value.int .i64 16)) w4 fun v5 w6 =>
 R (.returned v5) w6)
 (R (.returned (Value.bool false)) w2)
abbrev r0 (R:EP) (z:Env) (w:World):Prop:=R (.returned (z 2)) w
abbrev q1 (R:EP):XP:=QX (r0 R) (r0 R) []
theorem b3_ok (R:EP):TI prog R (sndC p1) (q1 R) fun z w=>b3 R (z 0) w:=ofT
noncomputable abbrev p2:Code:=dropC 1 (fstC p1)
noncomputable abbrev p3:Code:=loopC (blkC p2)
noncomputable abbrev p4:Code:=dropC 2 p3

def b9 (R:EP) (C6:VP) (x7:Value) (w:World) (_r:Tok R:=tok R) (_C6:Tok C6:=tok C6):Prop :=
 RUN prog R (bins .add 3 (.tmp 7) (.const (Value.int .i64 1)) x7 (Value.int .i64 1)) w fun v1 w2 =>
 C6 v1 w2
abbrev q2 (R:EP) (C6:VP):XP:=QX (fun z w=>C6 (z 7) w) (r0 R) [(0,(fun z w=>b3 R (z 0) w))]
theorem b9_ok (R:EP) (C6:VP):TI prog R (sndC p4) (q2 R C6) fun z w=>b9 R C6 (z 7) w:=ofT
noncomputable abbrev p5:Code:=blkC (fstC p4)
noncomputable abbrev p6:Code:=dropC 3 p5

def b12 (R:EP) (C6:VP) (x7 x36:Value) (w:World) (_r:Tok R:=tok R) (_C6:Tok C6:=tok C6):Prop :=
 SPL x36
 (R (.returned (Value.bool false)) w)
 (b9 R C6 x7 w)
abbrev q3 (R:EP) (C6:VP):XP:=QX (fun z w=>b9 R C6 (z 7) w) (r0 R) [(2,(fun z w=>b9 R C6 (z 7) w)),(0,(fun z w=>b3 R (z 0) w))]
theorem b12_ok (R:EP) (C6:VP):TI prog R p6 (q3 R C6) fun z w=>b12 R C6 (z 7) (z 36) w:=ofT
def b11 (R:EP) (C6:VP) (x0 x7:Value) (w:World) (_r:Tok R:=tok R) (_C6:Tok C6:=tok C6):Prop :=
 RUN prog R (index 9 x0 x7) w fun v1 w2 =>
 RUN prog R (bins .neq 5 (.tmp 13) (.const (Value.int .u8 95)) v1 (Value.int .u8 95)) w2 fun v3 w4 =>
 SPL v3
 (RUN prog R (bins .or 5 (.tmp 16) (.const (Value.int .u8 32)) v1 (Value.int .u8 32)) w4 fun v5 w6 =>
 RUN prog R (bins .lss 5 (.tmp 17) (.const (Value.int .u8 97)) v5 (Value.int .u8 97)) w6 fun v7 w8 =>
 SPL v7
 (RUN prog R (bins .eql 3 (.tmp 26) (.const (Value.int .i64 0)) x7 (Value.int .i64 0)) w8 fun v9 w10 =>
 SPL v9
 (b12 R C6 x7 (Value.bool true) w10)
 (RUN prog R (bins .lss 5 (.tmp 29) (.const (Value.int .u8 48)) v1 (Value.int .u8 48)) w10 fun v11 w12 =>
 SPL v11
 (b12 R C6 x7 (Value.bool true) w12)
 (RUN prog R (bins .gtr 5 (.tmp 33) (.const (Value.int .u8 57)) v1 (Value.int .u8 57)) w12 fun v13 w14 =>
 b12 R C6 x7 v13 w14)))
 (RUN prog R (bins .or 5 (.tmp 20) (.const (Value.int .u8 32)) v1 (Value.int .u8 32)) w8 fun v15 w16 =>
 RUN prog R (bins .gtr 5 (.tmp 21) (.const (Value.int .u8 122)) v15 (Value.int .u8 122)) w16 fun v17 w18 =>
 SPL v17
 (RUN prog R (bins .eql 3 (.tmp 26) (.const (Value.int .i64 0)) x7 (Value.int .i64 0)) w18 fun v19 w20 =>
 SPL v19
 (b12 R C6 x7 (Value.bool true) w20)
 (RUN prog R (bins .lss 5 (.tmp 29) (.const (Value.int .u8 48)) v1 (Value.int .u8 48)) w20 fun v21 w22 =>
 SPL v21
 (b12 R C6 x7 (Value.bool true) w22)
 (RUN prog R (bins .gtr 5 (.tmp 33) (.const (Value.int .u8 57)) v1 (Value.int .u8 57)) w22 fun v23 w24 =>
 b12 R C6 x7 v23 w24)))
 (b12 R C6 x7 (Value.bool false) w18)))
 (b12 R C6 x7 (Value.bool false) w4)
theorem b11_ok (R:EP) (C6:VP):TI prog R p5 (q3 R C6) fun z w=>b11 R C6 (z 0) (z 7) w:=appT 2 (b12_ok R C6)
abbrev q4 (R:EP) (C6:VP):XP:=QX (fun z w=>b9 R C6 (z 7) w) (r0 R) [(0,(fun z w=>b3 R (z 0) w))]
theorem k10_ok (R:EP) (C6:VP):TI prog R (fstC p4) (q4 R C6) fun z w=>b11 R C6 (z 0) (z 7) w:=blockT 1 (b11_ok R C6)
theorem k8_ok (R:EP) (C6:VP):TI prog R p4 (q2 R C6) fun z w=>b11 R C6 (z 0) (z 7) w:=seqT (k10_ok R C6) (b9_ok R C6)
def b7 (R:EP) (C6:VP) (x0 x6 x7:Value) (w:World) (_r:Tok R:=tok R) (_C6:Tok C6:=tok C6):Prop :=
 RUN prog R (bins .lss 3 (.tmp 7) (.tmp 6) x7 x6) w fun v1 w2 =>
 SPL v1
 (b11 R C6 x0 x7 w2)
 (b3 R x0 w2)
theorem b7_ok (R:EP) (C6:VP):TI prog R p3 (q2 R C6) fun z w=>b7 R C6 (z 0) (z 6) (z 7) w:=appT 1 (k8_ok R C6)
def l6 (R:EP) (x0 x6 x7:Value) (w:World) (_r:Tok R:=tok R):Prop :=
 ∃(J:VP) (μ:Value→World→Nat),J x7 w∧∀y7 w0,J y7 w0→b7 R (fun z7 w1=>J z7 w1∧μ z7 w1<μ y7 w0) x0 x6 y7 w0
abbrev q5 (R:EP):XP:=QX (fun z w=>b3 R (z 0) w) (r0 R) [(0,(fun z w=>b3 R (z 0) w))]
theorem l6_ok (R:EP):TI prog R (blkC p2) (q5 R) fun z w=>l6 R (z 0) (z 6) (z 7) w:=fun z w h=>by
 unfold l6 at h
 obtain ⟨J,μ,h0,hr⟩:=h
 refine loopT (fun z' w'=>J (z' 7) w') (fun z' w'=>μ (z' 7) w') h0 fun z' w' hA hI=>b7_ok R (fun z7 w1=>J z7 w1∧μ z7 w1<μ (z' 7) w') z' w' ?_
 have h1:=hr (z' 7) w' hI
 rwa [←hA.on 0,←hA.on 6] at h1
theorem l6_intro (R:EP) (x0 x6 x7:Value) (w:World) (J:VP) (μ:Value→World→Nat) (h0:J x7 w)
   (hr:∀y7 w0,J y7 w0→∀C6:VP,(∀z7 w1,J z7 w1→μ z7 w1<μ y7 w0→C6 z7 w1)→b7 R C6 x0 x6 y7 w0):l6 R x0 x6 x7 w:=by
 unfold l6
 exact ⟨J,μ,h0,fun y7 w0 hJ=>hr y7 w0 hJ _ (fun z7 w1 h1 h2=>⟨h1,h2⟩)⟩
abbrev q6 (R:EP):XP:=QX (fun z w=>b3 R (z 0) w) (r0 R) []
theorem k5_ok (R:EP):TI prog R p2 (q6 R) fun z w=>l6 R (z 0) (z 6) (z 7) w:=blockT 0 (l6_ok R)
def b4 (R:EP) (x0:Value) (w:World) (_r:Tok R:=tok R):Prop :=
 RUN prog R (Builtin.len_ #[9] 3 #[x0]) w fun v1 w2 =>
 l6 R x0 v1 (Value.int .i64 0) w2
theorem b4_ok (R:EP):TI prog R (fstC p1) (q6 R) fun z w=>b4 R (z 0) w:=appT 0 (k5_ok R)
theorem k2_ok (R:EP):TI prog R p1 (q1 R) fun z w=>b4 R (z 0) w:=seqT (b4_ok R) (b3_ok R)
def b1 (R:EP) (x0:Value) (w:World) (_r:Tok R:=tok R):Prop :=
 b4 R x0 w
theorem b1_ok (R:EP):TI prog R code (q1 R) fun z w=>b1 R (z 0) w:=appT 0 (k2_ok R)
def run (R:EP) (a0:Value) (w:World):Prop:=b1 R a0 w
theorem calls (R:EP) (a0:Value) (w:World) (h:run R a0 w):Calls prog id #[a0] w R:=cls_t func58 [a0] (b1_ok R _ w h)
theorem enters:Enters prog id:=fun args w=>call58 args w
theorem ct {a0:Value} {w:World} {S:VP} (h:∀R:EP,(∀v w,S v w→R (.returned v) w)→run R a0 w):Ct prog id #[a0] w S :=
 Ct.intro enters fun R hR=>calls R a0 w (h R hR)
attribute [irreducible] b3 b9 b12 b11 b7 l6 b4 b1 run
end gram_isName

/-! ### presage/gram.isTerm$1 -/
namespace gram_isTerm_1
noncomputable def code:Code:=bodyOf f80
def b1 (R:EP) (x0:Value) (w:World) (_r:Tok R:=tok R):Prop :=
 RUN prog R (bins .lss 21 (.tmp 3) (.const (Value.int .i32 32)) x0 (Value.int .i32 32)) w fun v1 w2 =>
 SPL v1
 (R (.returned (Value.bool true)) w2)
 (RUN prog R (bins .gtr 21 (.tmp 6) (.const (Value.int .i32 126)) x0 (Value.int .i32 126)) w2 fun v3 w4 =>
 SPL v3
 (R (.returned (Value.bool true)) w4)
 (RUN prog R (bins .eql 21 (.tmp 10) (.const (Value.int .i32 39)) x0 (Value.int .i32 39)) w4 fun v5 w6 =>
 R (.returned v5) w6))
abbrev r0 (R:EP) (z:Env) (w:World):Prop:=R (.returned (z 2)) w
abbrev q1 (R:EP):XP:=QX (r0 R) (r0 R) []
theorem b1_ok (R:EP):TI prog R code (q1 R) fun z w=>b1 R (z 0) w:=ofT
def run (R:EP) (a0:Value) (w:World):Prop:=b1 R a0 w
theorem calls (R:EP) (a0:Value) (w:World) (h:run R a0 w):Calls prog id #[a0] w R:=cls_t func80 [a0] (b1_ok R _ w h)
theorem enters:Enters prog id:=fun args w=>call80 args w
theorem ct {a0:Value} {w:World} {S:VP} (h:∀R:EP,(∀v w,S v w→R (.returned v) w)→run R a0 w):Ct prog id #[a0] w S :=
 Ct.intro enters fun R hR=>calls R a0 w (h R hR)
attribute [irreducible] b1 run
end gram_isTerm_1
end Go.Proofs.Ytmoepnfobnpdiaa

/- Shallow programs, written by a program of ours (gen.py) off the translation; each is tied to the code by the kernel. -/
namespace Go.Proofs.Ytmoepnfobnpdiaa
open Go.Px Try Instr

/-! ### strings.IndexFunc -/
namespace strings_IndexFunc
noncomputable def code:Code:=bodyOf f79
def b1 (R:EP) (x0 x1:Value) (w:World) (_r:Tok R:=tok R):Prop :=
 CALL prog R strings_indexFunc.id #[x0,x1,(Value.bool true)] w fun v1 w2 =>
 R (.returned v1) w2
abbrev r0 (R:EP) (z:Env) (w:World):Prop:=R (.returned (z 4)) w
abbrev q1 (R:EP):XP:=QX (r0 R) (r0 R) []
theorem b1_ok (R:EP):TI prog R code (q1 R) fun z w=>b1 R (z 0) (z 1) w:=ofT
def run (R:EP) (a0 a1:Value) (w:World):Prop:=b1 R a0 a1 w
theorem calls (R:EP) (a0 a1:Value) (w:World) (h:run R a0 a1 w):Calls prog id #[a0,a1] w R:=cls_t func79 [a0,a1] (b1_ok R _ w h)
theorem enters:Enters prog id:=fun args w=>call79 args w
theorem ct {a0 a1:Value} {w:World} {S:VP} (h:∀R:EP,(∀v w,S v w→R (.returned v) w)→run R a0 a1 w):Ct prog id #[a0,a1] w S :=
 Ct.intro enters fun R hR=>calls R a0 a1 w (h R hR)
attribute [irreducible] b1 run
end strings_IndexFunc

/-! ### strings.indexFunc -/
namespace strings_indexFunc
noncomputable def code:Code:=bodyOf f96
noncomputable abbrev p1:Code:=dropC 1 code

def b3 (R:EP) (w:World) (_r:Tok R:=tok R):Prop :=
 R (.returned (Value.int .i64 (-1))) w
abbrev r0 (R:EP) (z:Env) (w:World):Prop:=R (.returned (z 6)) w
abbrev q1 (R:EP):XP:=QX (r0 R) (r0 R) []
theorem b3_ok (R:EP):TI prog R (sndC p1) (q1 R) fun z w=>b3 R w:=ofT
noncomputable abbrev p2:Code:=dropC 1 (fstC p1)
noncomputable abbrev p3:Code:=loopC (blkC p2)
def b7 (R:EP) (C6:World→Prop) (x1 x2 x10:Value) (w:World) (_r:Tok R:=tok R) (_C6:Tok C6:=tok C6):Prop :=
 RUN prog R (next x10 true 0) w fun v1 w2 =>
 RUN prog R (extract v1 0) w2 fun v3 w4 =>
 SPL v3
 (RUN prog R (extract v1 1) w4 fun v5 w6 =>
 RUN prog R (extract v1 2) w6 fun v7 w8 =>
 CALLY prog R x1 [v7] w8 fun v9 w10 =>
 RUN prog R (bins .eql 4 (.tmp 17) (.tmp 18) v9 x2) w10 fun v11 w12 =>
 SPL v11
 (R (.returned v5) w12)
 (C6  w12))
 (b3 R w4)
abbrev q2 (R:EP) (C6:World→Prop):XP:=QX (fun z w=>C6  w) (r0 R) [(0,(fun z w=>b3 R  w))]
theorem b7_ok (R:EP) (C6:World→Prop):TI prog R p3 (q2 R C6) fun z w=>b7 R C6 (z 1) (z 2) (z 10) w:=ofT
def l6 (R:EP) (x1 x2 x10:Value) (w:World) (_r:Tok R:=tok R):Prop :=
 ∃(J:World→Prop) (μ:World→Nat),J  w∧∀w0,J  w0→b7 R (fun  w1=>J  w1∧μ  w1<μ  w0) x1 x2 x10 w0
abbrev q3 (R:EP):XP:=QX (fun z w=>b3 R  w) (r0 R) [(0,(fun z w=>b3 R  w))]
theorem l6_ok (R:EP):TI prog R (blkC p2) (q3 R) fun z w=>l6 R (z 1) (z 2) (z 10) w:=fun z w h=>by
 unfold l6 at h
 obtain ⟨J,μ,h0,hr⟩:=h
 refine loopT (fun z' w'=>J  w') (fun z' w'=>μ  w') h0 fun z' w' hA hI=>b7_ok R (fun  w1=>J  w1∧μ  w1<μ  w') z' w' ?_
 have h1:=hr  w' hI
 rwa [←hA.on 1,←hA.on 2,←hA.on 10] at h1
theorem l6_intro (R:EP) (x1 x2 x10:Value) (w:World) (J:World→Prop) (μ:World→Nat) (h0:J  w)
   (hr:∀w0,J  w0→∀C6:World→Prop,(∀w1,J  w1→μ  w1<μ  w0→C6  w1)→b7 R C6 x1 x2 x10 w0):l6 R x1 x2 x10 w:=by
 unfold l6
 exact ⟨J,μ,h0,fun  w0 hJ=>hr  w0 hJ _ (fun  w1 h1 h2=>⟨h1,h2⟩)⟩
abbrev q4 (R:EP):XP:=QX (fun z w=>b3 R  w) (r0 R) []
theorem k5_ok (R:EP):TI prog R p2 (q4 R) fun z w=>l6 R (z 1) (z 2) (z 10) w:=blockT 0 (l6_ok R)
def b4 (R:EP) (x0 x1 x2:Value) (w:World) (_r:Tok R:=tok R):Prop :=
 RUN prog R (range 9 x0) w fun v1 w2 =>
 l6 R x1 x2 v1 w2
theorem b4_ok (R:EP):TI prog R (fstC p1) (q4 R) fun z w=>b4 R (z 0) (z 1) (z 2) w:=appT 0 (k5_ok R)
theorem k2_ok (R:EP):TI prog R p1 (q1 R) fun z w=>b4 R (z 0) (z 1) (z 2) w:=seqT (b4_ok R) (b3_ok R)
def b1 (R:EP) (x0 x1 x2:Value) (w:World) (_r:Tok R:=tok R):Prop :=
 b4 R x0 x1 x2 w
theorem b1_ok (R:EP):TI prog R code (q1 R) fun z w=>b1 R (z 0) (z 1) (z 2) w:=appT 0 (k2_ok R)
def run (R:EP) (a0 a1 a2:Value) (w:World):Prop:=b1 R a0 a1 a2 w
theorem calls (R:EP) (a0 a1 a2:Value) (w:World) (h:run R a0 a1 a2 w):Calls prog id #[a0,a1,a2] w R:=cls_t func96 [a0,a1,a2] (b1_ok R _ w h)
theorem enters:Enters prog id:=fun args w=>call96 args w
theorem ct {a0 a1 a2:Value} {w:World} {S:VP} (h:∀R:EP,(∀v w,S v w→R (.returned v) w)→run R a0 a1 a2 w):Ct prog id #[a0,a1,a2] w S :=
 Ct.intro enters fun R hR=>calls R a0 a1 a2 w (h R hR)
attribute [irreducible] b3 b7 l6 b4 b1 run
end strings_indexFunc
end Go.Proofs.Ytmoepnfobnpdiaa

/- Shallow programs, written by a program of ours (gen.py) off the translation; each is tied to the code by the kernel. -/
namespace Go.Proofs.Ytmoepnfobnpdiaa
open Go.Px Try Instr

/-! ### presage/presageref02.IsTerm -/
namespace ref02_IsTerm
noncomputable def code:Code:=bodyOf f73
noncomputable abbrev p1:Code:=dropC 1 code
def b3 (R:EP) (x0:Value) (w:World) (_r:Tok R:=tok R):Prop :=
 RUN prog R (Builtin.len_ #[9] 3 #[x0]) w fun v1 w2 =>
 RUN prog R (bins .geq 3 (.tmp 27) (.const (Value.int .i64 1)) v1 (Value.int .i64 1)) w2 fun v3 w4 =>
 SPL v3
 (RUN prog R (Builtin.len_ #[9] 3 #[x0]) w4 fun v5 w6 =>
 RUN prog R (bins .leq 3 (.tmp 31) (.const (Value.int .i64 16)) v5 (Value.int .i64 16)) w6 fun v7 w8 =>
 R (.returned v7) w8)
 (R (.returned (Value.bool false)) w4)
abbrev r0 (R:EP) (z:Env) (w:World):Prop:=R (.returned (z 2)) w
abbrev q1 (R:EP):XP:=QX (r0 R) (r0 R) []
theorem b3_ok (R:EP):TI prog R (sndC p1) (q1 R) fun z w=>b3 R (z 0) w:=ofT
noncomputable abbrev p2:Code:=dropC 1 (fstC p1)
noncomputable abbrev p3:Code:=loopC (blkC p2)
noncomputable abbrev p4:Code:=dropC 1 p3
def b9 (R:EP) (C6:VP) (x3:Value) (w:World) (_r:Tok R:=tok R) (_C6:Tok C6:=tok C6):Prop :=
 RUN prog R (bins .add 3 (.tmp 8) (.const (Value.int .i64 1)) x3 (Value.int .i64 1)) w fun v1 w2 =>
 C6 v1 w2
abbrev q2 (R:EP) (C6:VP):XP:=QX (fun z w=>C6 (z 3) w) (r0 R) [(0,(fun z w=>b3 R (z 0) w))]
theorem b9_ok (R:EP) (C6:VP):TI prog R (sndC p4) (q2 R C6) fun z w=>b9 R C6 (z 3) w:=ofT
noncomputable abbrev p5:Code:=blkC (fstC p4)
noncomputable abbrev p6:Code:=dropC 1 p5
def b12 (R:EP) (C6:VP) (x3 x25:Value) (w:World) (_r:Tok R:=tok R) (_C6:Tok C6:=tok C6):Prop :=
 SPL x25
 (R (.returned (Value.bool false)) w)
 (b9 R C6 x3 w)
abbrev q3 (R:EP) (C6:VP):XP:=QX (fun z w=>b9 R C6 (z 3) w) (r0 R) [(2,(fun z w=>b9 R C6 (z 3) w)),(0,(fun z w=>b3 R (z 0) w))]
theorem b12_ok (R:EP) (C6:VP):TI prog R p6 (q3 R C6) fun z w=>b12 R C6 (z 3) (z 25) w:=ofT
def b11 (R:EP) (C6:VP) (x0 x3:Value) (w:World) (_r:Tok R:=tok R) (_C6:Tok C6:=tok C6):Prop :=
 RUN prog R (index 9 x0 x3) w fun v1 w2 =>
 RUN prog R (bins .lss 5 (.tmp 12) (.const (Value.int .u8 32)) v1 (Value.int .u8 32)) w2 fun v3 w4 =>
 SPL v3
 (b12 R C6 x3 (Value.bool true) w4)
 (RUN prog R (index 9 x0 x3) w4 fun v5 w6 =>
 RUN prog R (bins .gtr 5 (.tmp 17) (.const (Value.int .u8 126)) v5 (Value.int .u8 126)) w6 fun v7 w8 =>
 SPL v7
 (b12 R C6 x3 (Value.bool true) w8)
 (RUN prog R (index 9 x0 x3) w8 fun v9 w10 =>
 RUN prog R (bins .eql 5 (.tmp 23) (.const (Value.int .u8 39)) v9 (Value.int .u8 39)) w10 fun v11 w12 =>
 b12 R C6 x3 v11 w12))
theorem b11_ok (R:EP) (C6:VP):TI prog R p5 (q3 R C6) fun z w=>b11 R C6 (z 0) (z 3) w:=appT 0 (b12_ok R C6)
abbrev q4 (R:EP) (C6:VP):XP:=QX (fun z w=>b9 R C6 (z 3) w) (r0 R) [(0,(fun z w=>b3 R (z 0) w))]
theorem k10_ok (R:EP) (C6:VP):TI prog R (fstC p4) (q4 R C6) fun z w=>b11 R C6 (z 0) (z 3) w:=blockT 1 (b11_ok R C6)
theorem k8_ok (R:EP) (C6:VP):TI prog R p4 (q2 R C6) fun z w=>b11 R C6 (z 0) (z 3) w:=seqT (k10_ok R C6) (b9_ok R C6)
def b7 (R:EP) (C6:VP) (x0 x3:Value) (w:World) (_r:Tok R:=tok R) (_C6:Tok C6:=tok C6):Prop :=
 RUN prog R (Builtin.len_ #[9] 3 #[x0]) w fun v1 w2 =>
 RUN prog R (bins .lss 3 (.tmp 4) (.tmp 6) x3 v1) w2 fun v3 w4 =>
 SPL v3
 (b11 R C6 x0 x3 w4)
 (b3 R x0 w4)
theorem b7_ok (R:EP) (C6:VP):TI prog R p3 (q2 R C6) fun z w=>b7 R C6 (z 0) (z 3) w:=appT 0 (k8_ok R C6)
def l6 (R:EP) (x0 x3:Value) (w:World) (_r:Tok R:=tok R):Prop :=
 ∃(J:VP) (μ:Value→World→Nat),J x3 w∧∀y3 w0,J y3 w0→b7 R (fun z3 w1=>J z3 w1∧μ z3 w1<μ y3 w0) x0 y3 w0
abbrev q5 (R:EP):XP:=QX (fun z w=>b3 R (z 0) w) (r0 R) [(0,(fun z w=>b3 R (z 0) w))]
theorem l6_ok (R:EP):TI prog R (blkC p2) (q5 R) fun z w=>l6 R (z 0) (z 3) w:=fun z w h=>by
 unfold l6 at h
 obtain ⟨J,μ,h0,hr⟩:=h
 refine loopT (fun z' w'=>J (z' 3) w') (fun z' w'=>μ (z' 3) w') h0 fun z' w' hA hI=>b7_ok R (fun z3 w1=>J z3 w1∧μ z3 w1<μ (z' 3) w') z' w' ?_
 have h1:=hr (z' 3) w' hI
 rwa [←hA.on 0] at h1
theorem l6_intro (R:EP) (x0 x3:Value) (w:World) (J:VP) (μ:Value→World→Nat) (h0:J x3 w)
   (hr:∀y3 w0,J y3 w0→∀C6:VP,(∀z3 w1,J z3 w1→μ z3 w1<μ y3 w0→C6 z3 w1)→b7 R C6 x0 y3 w0):l6 R x0 x3 w:=by
 unfold l6
 exact ⟨J,μ,h0,fun y3 w0 hJ=>hr y3 w0 hJ _ (fun z3 w1 h1 h2=>⟨h1,h2⟩)⟩
abbrev q6 (R:EP):XP:=QX (fun z w=>b3 R (z 0) w) (r0 R) []
theorem k5_ok (R:EP):TI prog R p2 (q6 R) fun z w=>l6 R (z 0) (z 3) w:=blockT 0 (l6_ok R)
def b4 (R:EP) (x0:Value) (w:World) (_r:Tok R:=tok R):Prop :=
 l6 R x0 (Value.int .i64 0) w
theorem b4_ok (R:EP):TI prog R (fstC p1) (q6 R) fun z w=>b4 R (z 0) w:=appT 0 (k5_ok R)
theorem k2_ok (R:EP):TI prog R p1 (q1 R) fun z w=>b4 R (z 0) w:=seqT (b4_ok R) (b3_ok R)
def b1 (R:EP) (x0:Value) (w:World) (_r:Tok R:=tok R):Prop :=
 b4 R x0 w
theorem b1_ok (R:EP):TI prog R code (q1 R) fun z w=>b1 R (z 0) w:=appT 0 (k2_ok R)
def run (R:EP) (a0:Value) (w:World):Prop:=b1 R a0 w
theorem calls (R:EP) (a0:Value) (w:World) (h:run R a0 w):Calls prog id #[a0] w R:=cls_t func73 [a0] (b1_ok R _ w h)
theorem enters:Enters prog id:=fun args w=>call73 args w
theorem ct {a0:Value} {w:World} {S:VP} (h:∀R:EP,(∀v w,S v w→R (.returned v) w)→run R a0 w):Ct prog id #[a0] w S :=
 Ct.intro enters fun R hR=>calls R a0 w (h R hR)
attribute [irreducible] b3 b9 b12 b11 b7 l6 b4 b1 run
end ref02_IsTerm

/-! ### presage/presageref02.IsName -/
namespace ref02_IsName
noncomputable def code:Code:=bodyOf f74
noncomputable abbrev p1:Code:=dropC 1 code

def b3 (R:EP) (x0:Value) (w:World) (_r:Tok R:=tok R):Prop :=
 RUN prog R (Builtin.len_ #[9] 3 #[x0]) w fun v1 w2 =>
 RUN prog R (bins .geq 3 (.tmp 61) (.const (Value.int .i64 1)) v1 (Value.int .i64 1)) w2 fun v3 w4 =>
 SPL v3
 (RUN prog R (Builtin.len_ #[9] 3 #[x0]) w4 fun v5 w6 =>
 RUN prog R (bins .leq 3 (.tmp 65) (.const (Value.int .i64 16)) v5 (Value.int .i64 16)) w6 fun v7 w8 =>
 R (.returned v7) w8)
 (R (.returned (Value.bool false)) w4)
abbrev r0 (R:EP) (z:Env) (w:World):Prop:=R (.returned (z 2)) w
abbrev q1 (R:EP):XP:=QX (r0 R) (r0 R) []
theorem b3_ok (R:EP):TI prog R (sndC p1) (q1 R) fun z w=>b3 R (z 0) w:=ofT
noncomputable abbrev p2:Code:=dropC 1 (fstC p1)
noncomputable abbrev p3:Code:=loopC (blkC p2)
noncomputable abbrev p4:Code:=dropC 1 p3

def b9 (R:EP) (C6:VP) (x3:Value) (w:World) (_r:Tok R:=tok R) (_C6:Tok C6:=tok C6):Prop :=
 RUN prog R (bins .add 3 (.tmp 10) (.const (Value.int .i64 1)) x3 (Value.int .i64 1)) w fun v1 w2 =>
 C6 v1 w2
abbrev q2 (R:EP) (C6:VP):XP:=QX (fun z w=>C6 (z 3) w) (r0 R) [(0,(fun z w=>b3 R (z 0) w))]
theorem b9_ok (R:EP) (C6:VP):TI prog R (sndC p4) (q2 R C6) fun z w=>b9 R C6 (z 3) w:=ofT
noncomputable abbrev p5:Code:=blkC (fstC p4)
noncomputable abbrev p6:Code:=dropC 1 p5
noncomputable abbrev p7:Code:=dropC 1 p6
noncomputable abbrev p8:Code:=dropC 1 p7

def b14 (R:EP) (C6:VP) (x3 x59:Value) (w:World) (_r:Tok R:=tok R) (_C6:Tok C6:=tok C6):Prop :=
 SPL x59
 (R (.returned (Value.bool false)) w)
 (b9 R C6 x3 w)
abbrev q3 (R:EP) (C6:VP):XP:=QX (fun z w=>b9 R C6 (z 3) w) (r0 R) [(2,(fun z w=>b9 R C6 (z 3) w)),(0,(fun z w=>b3 R (z 0) w))]
theorem b14_ok (R:EP) (C6:VP):TI prog R p8 (q3 R C6) fun z w=>b14 R C6 (z 3) (z 59) w:=ofT

def b13 (R:EP) (C6:VP) (x3 x4 x5:Value) (w:World) (_r:Tok R:=tok R) (_C6:Tok C6:=tok C6):Prop :=
 RUN prog R (Op.unary .not x4) w fun v1 w2 =>
 SPL v1
 (RUN prog R (Op.unary .not x5) w2 fun v3 w4 =>
 b14 R C6 x3 v3 w4)
 (b14 R C6 x3 (Value.bool false) w2)
theorem b13_ok (R:EP) (C6:VP):TI prog R p7 (q3 R C6) fun z w=>b13 R C6 (z 3) (z 4) (z 5) w:=appT 0 (b14_ok R C6)

def b12 (R:EP) (C6:VP) (x0 x3 x4:Value) (w:World) (_r:Tok R:=tok R) (_C6:Tok C6:=tok C6):Prop :=
 RUN prog R (index 9 x0 x3) w fun v1 w2 =>
 RUN prog R (bins .geq 5 (.tmp 42) (.const (Value.int .u8 48)) v1 (Value.int .u8 48)) w2 fun v3 w4 =>
 SPL v3
 (RUN prog R (index 9 x0 x3) w4 fun v5 w6 =>
 RUN prog R (bins .leq 5 (.tmp 47) (.const (Value.int .u8 57)) v5 (Value.int .u8 57)) w6 fun v7 w8 =>
 SPL v7
 (RUN prog R (bins .gtr 3 (.tmp 51) (.const (Value.int .i64 0)) x3 (Value.int .i64 0)) w8 fun v9 w10 =>
 b13 R C6 x3 x4 v9 w10)
 (b13 R C6 x3 x4 (Value.bool false) w8))
 (b13 R C6 x3 x4 (Value.bool false) w4)
theorem b12_ok (R:EP) (C6:VP):TI prog R p6 (q3 R C6) fun z w=>b12 R C6 (z 0) (z 3) (z 4) w:=appT 0 (b13_ok R C6)

def b11 (R:EP) (C6:VP) (x0 x3:Value) (w:World) (_r:Tok R:=tok R) (_C6:Tok C6:=tok C6):Prop :=
 RUN prog R (index 9 x0 x3) w fun v1 w2 =>
 RUN prog R (bins .geq 5 (.tmp 14) (.const (Value.int .u8 65)) v1 (Value.int .u8 65)) w2 fun v3 w4 =>
 SPL v3
 (RUN prog R (index 9 x0 x3) w4 fun v5 w6 =>
 RUN prog R (bins .leq 5 (.tmp 19) (.const (Value.int .u8 90)) v5 (Value.int .u8 90)) w6 fun v7 w8 =>
 SPL v7
 (b12 R C6 x0 x3 (Value.bool true) w8)
 (RUN prog R (index 9 x0 x3) w8 fun v9 w10 =>
 RUN prog R (bins .geq 5 (.tmp 25) (.const (Value.int .u8 97)) v9 (Value.int .u8 97)) w10 fun v11 w12 =>
 SPL v11
 (RUN prog R (index 9 x0 x3) w12 fun v13 w14 =>
 RUN prog R (bins .leq 5 (.tmp 30) (.const (Value.int .u8 122)) v13 (Value.int .u8 122)) w14 fun v15 w16 =>
 SPL v15
 (b12 R C6 x0 x3 (Value.bool true) w16)
 (RUN prog R (index 9 x0 x3) w16 fun v17 w18 =>
 RUN prog R (bins .eql 5 (.tmp 37) (.const (Value.int .u8 95)) v17 (Value.int .u8 95)) w18 fun v19 w20 =>
 b12 R C6 x0 x3 v19 w20))
 (RUN prog R (index 9 x0 x3) w12 fun v21 w22 =>
 RUN prog R (bins .eql 5 (.tmp 37) (.const (Value.int .u8 95)) v21 (Value.int .u8 95)) w22 fun v23 w24 =>
 b12 R C6 x0 x3 v23 w24)))
 (RUN prog R (index 9 x0 x3) w4 fun v25 w26 =>
 RUN prog R (bins .geq 5 (.tmp 25) (.const (Value.int .u8 97)) v25 (Value.int .u8 97)) w26 fun v27 w28 =>
 SPL v27
 (RUN prog R (index 9 x0 x3) w28 fun v29 w30 =>
 RUN prog R (bins .leq 5 (.tmp 30) (.const (Value.int .u8 122)) v29 (Value.int .u8 122)) w30 fun v31 w32 =>
 SPL v31
 (b12 R C6 x0 x3 (Value.bool true) w32)
 (RUN prog R (index 9 x0 x3) w32 fun v33 w34 =>
 RUN prog R (bins .eql 5 (.tmp 37) (.const (Value.int .u8 95)) v33 (Value.int .u8 95)) w34 fun v35 w36 =>
 b12 R C6 x0 x3 v35 w36))
 (RUN prog R (index 9 x0 x3) w28 fun v37 w38 =>
 RUN prog R (bins .eql 5 (.tmp 37) (.const (Value.int .u8 95)) v37 (Value.int .u8 95)) w38 fun v39 w40 =>
 b12 R C6 x0 x3 v39 w40))
theorem b11_ok (R:EP) (C6:VP):TI prog R p5 (q3 R C6) fun z w=>b11 R C6 (z 0) (z 3) w:=appT 0 (b12_ok R C6)
abbrev q4 (R:EP) (C6:VP):XP:=QX (fun z w=>b9 R C6 (z 3) w) (r0 R) [(0,(fun z w=>b3 R (z 0) w))]
theorem k10_ok (R:EP) (C6:VP):TI prog R (fstC p4) (q4 R C6) fun z w=>b11 R C6 (z 0) (z 3) w:=blockT 1 (b11_ok R C6)
theorem k8_ok (R:EP) (C6:VP):TI prog R p4 (q2 R C6) fun z w=>b11 R C6 (z 0) (z 3) w:=seqT (k10_ok R C6) (b9_ok R C6)

def b7 (R:EP) (C6:VP) (x0 x3:Value) (w:World) (_r:Tok R:=tok R) (_C6:Tok C6:=tok C6):Prop :=
 RUN prog R (Builtin.len_ #[9] 3 #[x0]) w fun v1 w2 =>
 RUN prog R (bins .lss 3 (.tmp 6) (.tmp 8) x3 v1) w2 fun v3 w4 =>
 SPL v3
 (b11 R C6 x0 x3 w4)
 (b3 R x0 w4)
theorem b7_ok (R:EP) (C6:VP):TI prog R p3 (q2 R C6) fun z w=>b7 R C6 (z 0) (z 3) w:=appT 0 (k8_ok R C6)

def l6 (R:EP) (x0 x3:Value) (w:World) (_r:Tok R:=tok R):Prop :=
 ∃(J:VP) (μ:Value→World→Nat),J x3 w∧∀y3 w0,J y3 w0→b7 R (fun z3 w1=>J z3 w1∧μ z3 w1<μ y3 w0) x0 y3 w0
abbrev q5 (R:EP):XP:=QX (fun z w=>b3 R (z 0) w) (r0 R) [(0,(fun z w=>b3 R (z 0) w))]
theorem l6_ok (R:EP):TI prog R (blkC p2) (q5 R) fun z w=>l6 R (z 0) (z 3) w:=fun z w h=>by
 unfold l6 at h
 obtain ⟨J,μ,h0,hr⟩:=h
 refine loopT (fun z' w'=>J (z' 3) w') (fun z' w'=>μ (z' 3) w') h0 fun z' w' hA hI=>b7_ok R (fun z3 w1=>J z3 w1∧μ z3 w1<μ (z' 3) w') z' w' ?_
 have h1:=hr (z' 3) w' hI
 rwa [←hA.on 0] at h1
theorem l6_intro (R:EP) (x0 x3:Value) (w:World) (J:VP) (μ:Value→World→Nat) (h0:J x3 w)
   (hr:∀y3 w0,J y3 w0→∀C6:VP,(∀z3 w1,J z3 w1→μ z3 w1<μ y3 w0→C6 z3 w1)→b7 R C6 x0 y3 w0):l6 R x0 x3 w:=by
 unfold l6
 exact ⟨J,μ,h0,fun y3 w0 hJ=>hr y3 w0 hJ _ (fun z3 w1 h1 h2=>⟨h1,h2⟩)⟩
abbrev q6 (R:EP):XP:=QX (fun z w=>b3 R (z 0) w) (r0 R) []
theorem k5_ok (R:EP):TI prog R p2 (q6 R) fun z w=>l6 R (z 0) (z 3) w:=blockT 0 (l6_ok R)

def b4 (R:EP) (x0:Value) (w:World) (_r:Tok R:=tok R):Prop :=
 l6 R x0 (Value.int .i64 0) w
theorem b4_ok (R:EP):TI prog R (fstC p1) (q6 R) fun z w=>b4 R (z 0) w:=appT 0 (k5_ok R)
theorem k2_ok (R:EP):TI prog R p1 (q1 R) fun z w=>b4 R (z 0) w:=seqT (b4_ok R) (b3_ok R)

def b1 (R:EP) (x0:Value) (w:World) (_r:Tok R:=tok R):Prop :=
 b4 R x0 w
theorem b1_ok (R:EP):TI prog R code (q1 R) fun z w=>b1 R (z 0) w:=appT 0 (k2_ok R)
def run (R:EP) (a0:Value) (w:World):Prop:=b1 R a0 w
theorem calls (R:EP) (a0:Value) (w:World) (h:run R a0 w):Calls prog id #[a0] w R:=cls_t func74 [a0] (b1_ok R _ w h)
theorem enters:Enters prog id:=fun args w=>call74 args w
theorem ct {a0:Value} {w:World} {S:VP} (h:∀R:EP,(∀v w,S v w→R (.returned v) w)→run R a0 w):Ct prog id #[a0] w S :=
 Ct.intro enters fun R hR=>calls R a0 w (h R hR)
attribute [irreducible] b3 b9 b14 b13 b12 b11 b7 l6 b4 b1 run
end ref02_IsName
end Go.Proofs.Ytmoepnfobnpdiaa

/- Shallow programs, written by a program of ours (gen.py) off the translation; each is tied to the code by the kernel. -/
namespace Go.Proofs.Ytmoepnfobnpdiaa
open Go.Px Try Instr

/-! ### presage/lr0.Build -/
namespace lr0_Build
noncomputable def code:Code:=bodyOf f4
noncomputable abbrev p1:Code:=dropC 5 code
def b3_1 (R:EP) (x2 x5 v8:Value) (w9:World) (_r:Tok R:=tok R):Prop :=
 NILC x5 fun v10 =>
 RUN prog R (fieldAt 54 v10 0) w9 fun v11 w12 =>
 RUN prog R (fieldAt 30 v11 0) w12 fun v13 w14 =>
 RUNU prog R (storeAt 28 v13 v8) w14 fun w15 =>
 NILC x5 fun v16 =>
 RUN prog R (fieldAt 54 v16 0) w15 fun v17 w18 =>
 RUN prog R (loadAt 30 v17) w18 fun v19 w20 =>
 RUNU prog R (storeAt 30 x2 v19) w20 fun w21 =>
 LD prog (loadAt 30 x2) w21 fun r0=>R (.returned (.tuple #[r0,(Value.int .i64 0)])) w21

def b3 (R:EP) (x2 x5:Value) (w:World) (_r:Tok R:=tok R):Prop :=
 NILC x5 fun v1 =>
 RUN prog R (fieldAt 54 v1 0) w fun v2 w3 =>
 RUN prog R (fieldAt 30 v2 0) w3 fun v4 w5 =>
 RUN prog R (loadAt 28 v4) w5 fun v6 w7 =>
 CALL prog R slices_Clip_api_State_api_State.id #[v6] w7 fun v8 w9 =>
 b3_1 R x2 x5 v8 w9
abbrev r0 (R:EP) (z:Env) (w:World):Prop:=LD prog (loadAt 30 (z 2)) w fun r0=>R (.returned (.tuple #[r0,(z 3)])) w
abbrev q1 (R:EP):XP:=QX (r0 R) (r0 R) []
theorem b3_ok (R:EP):TI prog R (sndC p1) (q1 R) fun z w=>b3 R (z 2) (z 5) w:=ofT
noncomputable abbrev p2:Code:=dropC 1 (fstC p1)
noncomputable abbrev p3:Code:=loopC (blkC p2)
noncomputable abbrev p4:Code:=dropC 1 p3

def b9 (R:EP) (C6:VP) (x6:Value) (w:World) (_r:Tok R:=tok R) (_C6:Tok C6:=tok C6):Prop :=
 RUN prog R (bins .add 3 (.tmp 34) (.const (Value.int .i64 1)) x6 (Value.int .i64 1)) w fun v1 w2 =>
 C6 v1 w2
abbrev q2 (R:EP) (C6:VP):XP:=QX (fun z w=>C6 (z 6) w) (r0 R) [(0,(fun z w=>b3 R (z 2) (z 5) w))]
theorem b9_ok (R:EP) (C6:VP):TI prog R (sndC p4) (q2 R C6) fun z w=>b9 R C6 (z 6) w:=ofT
noncomputable abbrev p5:Code:=blkC (fstC p4)
noncomputable abbrev p6:Code:=dropC 2 p5
noncomputable abbrev p7:Code:=dropC 2 (sndC p6)
def b15_1 (R:EP) (C6:VP) (x6 v3 v4 v5:Value) (w6:World) (_r:Tok R:=tok R) (_C6:Tok C6:=tok C6):Prop :=
 Sem.run prog (loadAt 28 v3) w6 = .ok v4 w6∧(PUR prog (indexAt 28 v4 x6) fun v7 =>
 PUR prog (fieldAt 48 v7 1) fun v8 =>
 RUNU prog R (storeAt 46 v8 v5) w6 fun w9 =>
 b9 R C6 x6 w9)

def b15 (R:EP) (C6:VP) (x5 x6 x10:Value) (w:World) (_r:Tok R:=tok R) (_C6:Tok C6:=tok C6):Prop :=
 NILC x5 fun v1 =>
 PUR prog (fieldAt 54 v1 0) fun v2 =>
 PUR prog (fieldAt 30 v2 0) fun v3 =>
 LD prog (loadAt 28 v3) (World.drew w) fun v4 =>
 CALL prog R slices_Clip_api_Edge_api_Edge.id #[x10] (World.drew w) fun v5 w6 =>
 b15_1 R C6 x6 v3 v4 v5 w6
abbrev q3 (R:EP) (C6:VP):XP:=QX (fun z w=>b9 R C6 (z 6) w) (r0 R) [(2,(fun z w=>b9 R C6 (z 6) w)),(0,(fun z w=>b3 R (z 2) (z 5) w))]
theorem b15_ok (R:EP) (C6:VP):TI prog R (sndC p7) (q3 R C6) fun z w=>b15 R C6 (z 5) (z 6) (z 10) w:=ofT
noncomputable abbrev p8:Code:=dropC 1 (fstC p7)
noncomputable abbrev p9:Code:=loopC (blkC p8)
def b19_1 (R:EP) (x2:Value) (w29:World) (_r:Tok R:=tok R):Prop :=
 RUN prog R (build 30 #[]) w29 fun v30 w31 =>
 RUNU prog R (storeAt 30 x2 v30) w31 fun w32 =>
 LD prog (loadAt 30 x2) w32 fun r0=>R (.returned (.tuple #[r0,(Value.int .i64 11)])) w32
def b19_2 (R:EP) (C18:Value→VP) (x2 x5 x10 x61 v5 v11:Value) (w12:World) (_r:Tok R:=tok R) (_C18:Tok C18:=tok C18):Prop :=
 RUN prog R (build 63 #[(0,v5),(1,v11)]) w12 fun v13 w14 =>
 RUN prog R (buildSlice 46 1 #[(0,v13)]) w14 fun v15 w16 =>
 RUN prog R (Builtin.append_ #[46,46] 46 #[x10,v15]) w16 fun v17 w18 =>
 NILC x5 fun v19 =>
 RUN prog R (fieldAt 54 v19 0) w18 fun v20 w21 =>
 RUN prog R (fieldAt 30 v20 0) w21 fun v22 w23 =>
 RUN prog R (loadAt 28 v22) w23 fun v24 w25 =>
 RUN prog R (Builtin.len_ #[28] 3 #[v24]) w25 fun v26 w27 =>
 RUN prog R (bins .gtr 3 (.tmp 81) (.const (Value.int .i64 256)) v26 (Value.int .i64 256)) w27 fun v28 w29 =>
 SPL v28
 (b19_1 R x2 w29)
 (RUN prog R (bins .add 3 (.tmp 61) (.const (Value.int .i64 1)) x61 (Value.int .i64 1)) w29 fun v33 w34 =>
 C18 v17 v33 w34)
def b19_3 (R:EP) (C18:Value→VP) (x2 x5 x7 x10 x59 x61:Value) (w2:World) (_r:Tok R:=tok R) (_C18:Tok C18:=tok C18):Prop :=
 RUN prog R (indexAt 24 x59 x61) w2 fun v3 w4 =>
 RUN prog R (loadAt 3 v3) w4 fun v5 w6 =>
 RUN prog R (lookup 58 x7 v5 false) w6 fun v7 w8 =>
 CALL prog R lr0_laid.id #[v7] w8 fun v9 w10 =>
 CALL prog R lr0_table_intern.id #[x5,v9] w10 fun v11 w12 =>
 b19_2 R C18 x2 x5 x10 x61 v5 v11 w12

def b19 (R:EP) (C6:VP) (C18:Value→VP) (x2 x5 x6 x7 x10 x59 x60 x61:Value) (w:World) (_r:Tok R:=tok R) (_C6:Tok C6:=tok C6) (_C18:Tok C18:=tok C18):Prop :=
 RUN prog R (bins .lss 3 (.tmp 61) (.tmp 60) x61 x60) w fun v1 w2 =>
 SPL v1
 (b19_3 R C18 x2 x5 x7 x10 x59 x61 w2)
 (b15 R C6 x5 x6 x10 w2)
abbrev q4 (R:EP) (C6:VP) (C18:Value→VP):XP:=QX (fun z w=>C18 (z 10) (z 61) w) (r0 R) [(8,(fun z w=>b15 R C6 (z 5) (z 6) (z 10) w)),(2,(fun z w=>b9 R C6 (z 6) w)),(0,(fun z w=>b3 R (z 2) (z 5) w))]
theorem b19_ok (R:EP) (C6:VP) (C18:Value→VP):TI prog R p9 (q4 R C6 C18) fun z w=>b19 R C6 C18 (z 2) (z 5) (z 6) (z 7) (z 10) (z 59) (z 60) (z 61) w:=ofT

def l18 (R:EP) (C6:VP) (x2 x5 x6 x7 x10 x59 x60 x61:Value) (w:World) (_r:Tok R:=tok R) (_C6:Tok C6:=tok C6):Prop :=
 ∃(J:Value→VP) (μ:Value→Value→World→Nat),J x10 x61 w∧∀y10 y61 w0,J y10 y61 w0→b19 R C6 (fun z10 z61 w1=>J z10 z61 w1∧μ z10 z61 w1<μ y10 y61 w0) x2 x5 x6 x7 y10 x59 x60 y61 w0
abbrev q5 (R:EP) (C6:VP):XP:=QX (fun z w=>b15 R C6 (z 5) (z 6) (z 10) w) (r0 R) [(8,(fun z w=>b15 R C6 (z 5) (z 6) (z 10) w)),(2,(fun z w=>b9 R C6 (z 6) w)),(0,(fun z w=>b3 R (z 2) (z 5) w))]
theorem l18_ok (R:EP) (C6:VP):TI prog R (blkC p8) (q5 R C6) fun z w=>l18 R C6 (z 2) (z 5) (z 6) (z 7) (z 10) (z 59) (z 60) (z 61) w:=fun z w h=>by
 unfold l18 at h
 obtain ⟨J,μ,h0,hr⟩:=h
 refine loopT (fun z' w'=>J (z' 10) (z' 61) w') (fun z' w'=>μ (z' 10) (z' 61) w') h0 fun z' w' hA hI=>b19_ok R C6 (fun z10 z61 w1=>J z10 z61 w1∧μ z10 z61 w1<μ (z' 10) (z' 61) w') z' w' ?_
 have h1:=hr (z' 10) (z' 61) w' hI
 rwa [←hA.on 2,←hA.on 5,←hA.on 6,←hA.on 7,←hA.on 59,←hA.on 60] at h1
theorem l18_intro (R:EP) (C6:VP) (x2 x5 x6 x7 x10 x59 x60 x61:Value) (w:World) (J:Value→VP) (μ:Value→Value→World→Nat) (h0:J x10 x61 w)
   (hr:∀y10 y61 w0,J y10 y61 w0→∀C18:Value→VP,(∀z10 z61 w1,J z10 z61 w1→μ z10 z61 w1<μ y10 y61 w0→C18 z10 z61 w1)→b19 R C6 C18 x2 x5 x6 x7 y10 x59 x60 y61 w0):l18 R C6 x2 x5 x6 x7 x10 x59 x60 x61 w:=by
 unfold l18
 exact ⟨J,μ,h0,fun y10 y61 w0 hJ=>hr y10 y61 w0 hJ _ (fun z10 z61 w1 h1 h2=>⟨h1,h2⟩)⟩
abbrev q6 (R:EP) (C6:VP):XP:=QX (fun z w=>b15 R C6 (z 5) (z 6) (z 10) w) (r0 R) [(2,(fun z w=>b9 R C6 (z 6) w)),(0,(fun z w=>b3 R (z 2) (z 5) w))]
theorem k17_ok (R:EP) (C6:VP):TI prog R p8 (q6 R C6) fun z w=>l18 R C6 (z 2) (z 5) (z 6) (z 7) (z 10) (z 59) (z 60) (z 61) w:=blockT 4 (l18_ok R C6)

def b16 (R:EP) (C6:VP) (x2 x5 x6 x7 x8 x10:Value) (w:World) (_r:Tok R:=tok R) (_C6:Tok C6:=tok C6):Prop :=
 RUN prog R (Builtin.len_ #[24] 3 #[x8]) w fun v1 w2 =>
 l18 R C6 x2 x5 x6 x7 x10 x8 v1 (Value.int .i64 0) w2
theorem b16_ok (R:EP) (C6:VP):TI prog R (fstC p7) (q6 R C6) fun z w=>b16 R C6 (z 2) (z 5) (z 6) (z 7) (z 8) (z 10) w:=appT 0 (k17_ok R C6)
theorem k14_ok (R:EP) (C6:VP):TI prog R p7 (q3 R C6) fun z w=>b16 R C6 (z 2) (z 5) (z 6) (z 7) (z 8) (z 10) w:=seqT (b16_ok R C6) (b15_ok R C6)

def b13 (R:EP) (C6:VP) (x2 x5 x6 x7 x8:Value) (w:World) (_r:Tok R:=tok R) (_C6:Tok C6:=tok C6):Prop :=
 CALL prog R slices_Sort_int_int.id #[x8] w fun v1 w2 =>
 b16 R C6 x2 x5 x6 x7 x8 (Value.slice Option.none 0 0) w2
theorem b13_ok (R:EP) (C6:VP):TI prog R (sndC p6) (q3 R C6) fun z w=>b13 R C6 (z 2) (z 5) (z 6) (z 7) (z 8) w:=appT 1 (k14_ok R C6)
noncomputable abbrev p10:Code:=dropC 1 (fstC p6)
noncomputable abbrev p11:Code:=loopC (blkC p10)
def b23_1 (R:EP) (C22:VP) (x8 x48:Value) (w4:World) (_r:Tok R:=tok R) (_C22:Tok C22:=tok C22):Prop :=
 RUN prog R (entry x48) w4 fun v5 w6 =>
 RUN prog R (extract v5 0) w6 fun v7 w8 =>
 RUN prog R (buildSlice 24 1 #[(0,v7)]) w8 fun v9 w10 =>
 RUN prog R (Builtin.append_ #[24,24] 24 #[x8,v9]) w10 fun v11 w12 =>
 C22 v11 w12

def b23 (R:EP) (C6:VP) (C22:VP) (x2 x5 x6 x7 x8 x48:Value) (w:World) (_r:Tok R:=tok R) (_C6:Tok C6:=tok C6) (_C22:Tok C22:=tok C22):Prop :=
 RUN prog R (next x48 false 0) w fun v1 w2 =>
 RUN prog R (extract v1 0) w2 fun v3 w4 =>
 SPL v3
 (b23_1 R C22 x8 x48 w4)
 (b13 R C6 x2 x5 x6 x7 x8 w4)
abbrev q7 (R:EP) (C6:VP) (C22:VP):XP:=QX (fun z w=>C22 (z 8) w) (r0 R) [(4,(fun z w=>b13 R C6 (z 2) (z 5) (z 6) (z 7) (z 8) w)),(2,(fun z w=>b9 R C6 (z 6) w)),(0,(fun z w=>b3 R (z 2) (z 5) w))]
theorem b23_ok (R:EP) (C6:VP) (C22:VP):TI prog R p11 (q7 R C6 C22) fun z w=>b23 R C6 C22 (z 2) (z 5) (z 6) (z 7) (z 8) (z 48) w:=ofT

def l22 (R:EP) (C6:VP) (x2 x5 x6 x7 x8 x48:Value) (w:World) (_r:Tok R:=tok R) (_C6:Tok C6:=tok C6):Prop :=
 ∃(J:VP) (μ:Value→World→Nat),J x8 w∧∀y8 w0,J y8 w0→b23 R C6 (fun z8 w1=>J z8 w1∧μ z8 w1<μ y8 w0) x2 x5 x6 x7 y8 x48 w0
abbrev q8 (R:EP) (C6:VP):XP:=QX (fun z w=>b13 R C6 (z 2) (z 5) (z 6) (z 7) (z 8) w) (r0 R) [(4,(fun z w=>b13 R C6 (z 2) (z 5) (z 6) (z 7) (z 8) w)),(2,(fun z w=>b9 R C6 (z 6) w)),(0,(fun z w=>b3 R (z 2) (z 5) w))]
theorem l22_ok (R:EP) (C6:VP):TI prog R (blkC p10) (q8 R C6) fun z w=>l22 R C6 (z 2) (z 5) (z 6) (z 7) (z 8) (z 48) w:=fun z w h=>by
 unfold l22 at h
 obtain ⟨J,μ,h0,hr⟩:=h
 refine loopT (fun z' w'=>J (z' 8) w') (fun z' w'=>μ (z' 8) w') h0 fun z' w' hA hI=>b23_ok R C6 (fun z8 w1=>J z8 w1∧μ z8 w1<μ (z' 8) w') z' w' ?_
 have h1:=hr (z' 8) w' hI
 rwa [←hA.on 2,←hA.on 5,←hA.on 6,←hA.on 7,←hA.on 48] at h1
theorem l22_intro (R:EP) (C6:VP) (x2 x5 x6 x7 x8 x48:Value) (w:World) (J:VP) (μ:Value→World→Nat) (h0:J x8 w)
   (hr:∀y8 w0,J y8 w0→∀C22:VP,(∀z8 w1,J z8 w1→μ z8 w1<μ y8 w0→C22 z8 w1)→b23 R C6 C22 x2 x5 x6 x7 y8 x48 w0):l22 R C6 x2 x5 x6 x7 x8 x48 w:=by
 unfold l22
 exact ⟨J,μ,h0,fun y8 w0 hJ=>hr y8 w0 hJ _ (fun z8 w1 h1 h2=>⟨h1,h2⟩)⟩
abbrev q9 (R:EP) (C6:VP):XP:=QX (fun z w=>b13 R C6 (z 2) (z 5) (z 6) (z 7) (z 8) w) (r0 R) [(2,(fun z w=>b9 R C6 (z 6) w)),(0,(fun z w=>b3 R (z 2) (z 5) w))]
theorem k21_ok (R:EP) (C6:VP):TI prog R p10 (q9 R C6) fun z w=>l22 R C6 (z 2) (z 5) (z 6) (z 7) (z 8) (z 48) w:=blockT 2 (l22_ok R C6)

def b20 (R:EP) (C6:VP) (x2 x5 x6 x7 x8:Value) (w:World) (_r:Tok R:=tok R) (_C6:Tok C6:=tok C6):Prop :=
 RUN prog R (range 58 x7) w fun v1 w2 =>
 l22 R C6 x2 x5 x6 x7 x8 v1 w2
theorem b20_ok (R:EP) (C6:VP):TI prog R (fstC p6) (q9 R C6) fun z w=>b20 R C6 (z 2) (z 5) (z 6) (z 7) (z 8) w:=appT 0 (k21_ok R C6)
theorem k12_ok (R:EP) (C6:VP):TI prog R p6 (q3 R C6) fun z w=>b20 R C6 (z 2) (z 5) (z 6) (z 7) (z 8) w:=seqT (b20_ok R C6) (b13_ok R C6)

def b11 (R:EP) (C6:VP) (x2 x4 x5 x6:Value) (w:World) (_r:Tok R:=tok R) (_C6:Tok C6:=tok C6):Prop :=
 NILC x5 fun v1 =>
 RUN prog R (fieldAt 54 v1 0) w fun v2 w3 =>
 RUN prog R (fieldAt 30 v2 0) w3 fun v4 w5 =>
 RUN prog R (loadAt 28 v4) w5 fun v6 w7 =>
 RUN prog R (indexAt 28 v6 x6) w7 fun v8 w9 =>
 RUN prog R (fieldAt 48 v8 0) w9 fun v10 w11 =>
 RUN prog R (loadAt 39 v10) w11 fun v12 w13 =>
 CALL prog R lr0_maker_kernels.id #[x4,v12] w13 fun v14 w15 =>
 b20 R C6 x2 x5 x6 v14 (Value.slice Option.none 0 0) w15
theorem b11_ok (R:EP) (C6:VP):TI prog R p5 (q3 R C6) fun z w=>b11 R C6 (z 2) (z 4) (z 5) (z 6) w:=appT 1 (k12_ok R C6)
abbrev q10 (R:EP) (C6:VP):XP:=QX (fun z w=>b9 R C6 (z 6) w) (r0 R) [(0,(fun z w=>b3 R (z 2) (z 5) w))]
theorem k10_ok (R:EP) (C6:VP):TI prog R (fstC p4) (q10 R C6) fun z w=>b11 R C6 (z 2) (z 4) (z 5) (z 6) w:=blockT 1 (b11_ok R C6)
theorem k8_ok (R:EP) (C6:VP):TI prog R p4 (q2 R C6) fun z w=>b11 R C6 (z 2) (z 4) (z 5) (z 6) w:=seqT (k10_ok R C6) (b9_ok R C6)

def b7 (R:EP) (C6:VP) (x2 x4 x5 x6:Value) (w:World) (_r:Tok R:=tok R) (_C6:Tok C6:=tok C6):Prop :=
 NILC x5 fun v1 =>
 RUN prog R (fieldAt 54 v1 0) w fun v2 w3 =>
 RUN prog R (fieldAt 30 v2 0) w3 fun v4 w5 =>
 RUN prog R (loadAt 28 v4) w5 fun v6 w7 =>
 RUN prog R (Builtin.len_ #[28] 3 #[v6]) w7 fun v8 w9 =>
 RUN prog R (bins .lss 3 (.tmp 26) (.tmp 32) x6 v8) w9 fun v10 w11 =>
 SPL v10
 (b11 R C6 x2 x4 x5 x6 w11)
 (b3 R x2 x5 w11)
theorem b7_ok (R:EP) (C6:VP):TI prog R p3 (q2 R C6) fun z w=>b7 R C6 (z 2) (z 4) (z 5) (z 6) w:=appT 0 (k8_ok R C6)

def l6 (R:EP) (x2 x4 x5 x6:Value) (w:World) (_r:Tok R:=tok R):Prop :=
 ∃(J:VP) (μ:Value→World→Nat),J x6 w∧∀y6 w0,J y6 w0→b7 R (fun z6 w1=>J z6 w1∧μ z6 w1<μ y6 w0) x2 x4 x5 y6 w0
abbrev q11 (R:EP):XP:=QX (fun z w=>b3 R (z 2) (z 5) w) (r0 R) [(0,(fun z w=>b3 R (z 2) (z 5) w))]
theorem l6_ok (R:EP):TI prog R (blkC p2) (q11 R) fun z w=>l6 R (z 2) (z 4) (z 5) (z 6) w:=fun z w h=>by
 unfold l6 at h
 obtain ⟨J,μ,h0,hr⟩:=h
 refine loopT (fun z' w'=>J (z' 6) w') (fun z' w'=>μ (z' 6) w') h0 fun z' w' hA hI=>b7_ok R (fun z6 w1=>J z6 w1∧μ z6 w1<μ (z' 6) w') z' w' ?_
 have h1:=hr (z' 6) w' hI
 rwa [←hA.on 2,←hA.on 4,←hA.on 5] at h1
theorem l6_intro (R:EP) (x2 x4 x5 x6:Value) (w:World) (J:VP) (μ:Value→World→Nat) (h0:J x6 w)
   (hr:∀y6 w0,J y6 w0→∀C6:VP,(∀z6 w1,J z6 w1→μ z6 w1<μ y6 w0→C6 z6 w1)→b7 R C6 x2 x4 x5 y6 w0):l6 R x2 x4 x5 x6 w:=by
 unfold l6
 exact ⟨J,μ,h0,fun y6 w0 hJ=>hr y6 w0 hJ _ (fun z6 w1 h1 h2=>⟨h1,h2⟩)⟩
abbrev q12 (R:EP):XP:=QX (fun z w=>b3 R (z 2) (z 5) w) (r0 R) []
theorem k5_ok (R:EP):TI prog R p2 (q12 R) fun z w=>l6 R (z 2) (z 4) (z 5) (z 6) w:=blockT 0 (l6_ok R)

def b4 (R:EP) (x2 x4 x5:Value) (w:World) (_r:Tok R:=tok R):Prop :=
 l6 R x2 x4 x5 (Value.int .i64 0) w
theorem b4_ok (R:EP):TI prog R (fstC p1) (q12 R) fun z w=>b4 R (z 2) (z 4) (z 5) w:=appT 0 (k5_ok R)
theorem k2_ok (R:EP):TI prog R p1 (q1 R) fun z w=>b4 R (z 2) (z 4) (z 5) w:=seqT (b4_ok R) (b3_ok R)
def b1_1 (R:EP) (v3:Value) (w10:World) (_r:Tok R:=tok R):Prop :=
 RUN prog R (build 30 #[]) w10 fun v11 w12 =>
 RUNU prog R (storeAt 30 v3 v11) w12 fun w13 =>
 LD prog (loadAt 30 v3) w13 fun r0=>R (.returned (.tuple #[r0,(Value.int .i64 1)])) w13
def b1_2 (R:EP) (v3 v16:Value) (w17:World) (_r:Tok R:=tok R):Prop :=
 RUN prog R (makeMap 52 none) w17 fun v18 w19 =>
 RUN prog R (build 54 #[(1,v18)]) w19 fun v20 w21 =>
 RUN prog R (box 54 v20) w21 fun v22 w23 =>
 RUN prog R (build 57 #[]) w23 fun v24 w25 =>
 RUN prog R (buildSlice 39 1 #[(0,v24)]) w25 fun v26 w27 =>
 CALL prog R lr0_table_intern.id #[v22,v26] w27 fun v28 w29 =>
 b4 R v3 v16 v22 w29
def b1_3 (R:EP) (v1 v3:Value) (w10:World) (_r:Tok R:=tok R):Prop :=
 RUN prog R (loadAt 27 v1) w10 fun v14 w15 =>
 CALL prog R lr0_of.id #[v14] w15 fun v16 w17 =>
 b1_2 R v3 v16 w17

def b1 (R:EP) (x0:Value) (w:World) (_r:Tok R:=tok R):Prop :=
 RUN prog R (box 27 x0) w fun v1 w2 =>
 RUN prog R (alloc 30 true (.tuple #[])) w2 fun v3 w4 =>
 RUN prog R (loadAt 27 v1) w4 fun v5 w6 =>
 CALL prog R gram_Closed.id #[v5] w6 fun v7 w8 =>
 RUN prog R (Op.unary .not v7) w8 fun v9 w10 =>
 SPL v9
 (b1_1 R v3 w10)
 (b1_3 R v1 v3 w10)
theorem b1_ok (R:EP):TI prog R code (q1 R) fun z w=>b1 R (z 0) w:=appT 4 (k2_ok R)
def run (R:EP) (a0:Value) (w:World):Prop:=b1 R a0 w
theorem calls (R:EP) (a0:Value) (w:World) (h:run R a0 w):Calls prog id #[a0] w R :=
 calls_of_ct (f:=id) (fn:=f4) (c:=code) (by kernel_rfl) func4 (by kernel_rfl) (by kernel_rfl) (args:=[a0]) (Nat.le_of_ble_eq_true rfl) rfl (b1_ok R (envOf [a0]) w h)
theorem enters:Enters prog id:=fun args w=>call4 args w
theorem ct {a0:Value} {w:World} {S:VP} (h:∀R:EP,(∀v w,S v w→R (.returned v) w)→run R a0 w):Ct prog id #[a0] w S :=
 Ct.intro enters fun R hR=>calls R a0 w (h R hR)
attribute [irreducible] l18 l22 l6
attribute [irreducible,go_sem] b3_1 b3 b9 b15_1 b15 b19_1 b19_2 b19_3 b19 b16 b13 b23_1 b23 b20 b11 b7 b4 b1_1 b1_2 b1_3 b1 run
end lr0_Build

/-! ### presage/lr0.Closure -/
namespace lr0_Closure
noncomputable def code:Code:=bodyOf f10
noncomputable abbrev p1:Code:=dropC 2 code
def b3 (R:EP) (x1 x6:Value) (w:World) (_r:Tok R:=tok R):Prop :=
 CALL prog R lr0_maker_closure.id #[x6,x1] w fun v1 w2 =>
 R (.returned (.tuple #[v1,(Value.int .i64 0)])) w2
abbrev r0 (R:EP) (z:Env) (w:World):Prop:=R (.returned (.tuple #[(z 4),(z 5)])) w
abbrev q1 (R:EP):XP:=QX (r0 R) (r0 R) []
theorem b3_ok (R:EP):TI prog R (sndC p1) (q1 R) fun z w=>b3 R (z 1) (z 6) w:=ofT
noncomputable abbrev p2:Code:=dropC 1 (fstC p1)
def b5 (R:EP) (x1 x6 x17:Value) (w:World) (_r:Tok R:=tok R):Prop :=
 SPL x17
 (R (.returned (.tuple #[(Value.slice Option.none 0 0),(Value.int .i64 1)])) w)
 (b3 R x1 x6 w)
abbrev q2 (R:EP):XP:=QX (fun z w=>b3 R (z 1) (z 6) w) (r0 R) []
theorem b5_ok (R:EP):TI prog R p2 (q2 R) fun z w=>b5 R (z 1) (z 6) (z 17) w:=ofT
def b4_1 (R:EP) (x1 x6:Value) (w6:World) (_r:Tok R:=tok R):Prop :=
 CALL prog R lr0_maker_fits.id #[x6,x1] w6 fun v7 w8 =>
 RUN prog R (Op.unary .not v7) w8 fun v9 w10 =>
 b5 R x1 x6 v9 w10
def b4 (R:EP) (x1 x2 x6:Value) (w:World) (_r:Tok R:=tok R):Prop :=
 RUN prog R (loadAt 27 x2) w fun v1 w2 =>
 CALL prog R gram_Closed.id #[v1] w2 fun v3 w4 =>
 RUN prog R (Op.unary .not v3) w4 fun v5 w6 =>
 SPL v5
 (b5 R x1 x6 (Value.bool true) w6)
 (b4_1 R x1 x6 w6)
theorem b4_ok (R:EP):TI prog R (fstC p1) (q2 R) fun z w=>b4 R (z 1) (z 2) (z 6) w:=appT 0 (b5_ok R)
theorem k2_ok (R:EP):TI prog R p1 (q1 R) fun z w=>b4 R (z 1) (z 2) (z 6) w:=seqT (b4_ok R) (b3_ok R)
def b1 (R:EP) (x0 x1:Value) (w:World) (_r:Tok R:=tok R):Prop :=
 RUN prog R (box 27 x0) w fun v1 w2 =>
 RUN prog R (loadAt 27 v1) w2 fun v3 w4 =>
 CALL prog R lr0_of.id #[v3] w4 fun v5 w6 =>
 b4 R x1 v1 v5 w6
theorem b1_ok (R:EP):TI prog R code (q1 R) fun z w=>b1 R (z 0) (z 1) w:=appT 1 (k2_ok R)
def run (R:EP) (a0 a1:Value) (w:World):Prop:=b1 R a0 a1 w
theorem calls (R:EP) (a0 a1:Value) (w:World) (h:run R a0 a1 w):Calls prog id #[a0,a1] w R :=
 calls_of_tt (f:=id) (fn:=f10) (c:=code) (by kernel_rfl) func10 (by kernel_rfl) (by kernel_rfl) (args:=[a0,a1]) (Nat.le_of_ble_eq_true rfl) rfl (b1_ok R (envOf [a0,a1]) w h)
theorem enters:Enters prog id:=fun args w=>call10 args w
theorem ct {a0 a1:Value} {w:World} {S:VP} (h:∀R:EP,(∀v w,S v w→R (.returned v) w)→run R a0 a1 w):Ct prog id #[a0,a1] w S :=
 Ct.intro enters fun R hR=>calls R a0 a1 w (h R hR)
attribute [irreducible,go_sem] b3 b5 b4_1 b4 b1 run
end lr0_Closure

/-! ### presage/lr0.of -/
namespace lr0_of
noncomputable def code:Code:=bodyOf f12
noncomputable abbrev p1:Code:=dropC 2 code
def b3 (R:EP) (x3:Value) (w:World) (_r:Tok R:=tok R):Prop :=
 R (.returned x3) w
abbrev r0 (R:EP) (z:Env) (w:World):Prop:=R (.returned (z 2)) w
abbrev q1 (R:EP):XP:=QX (r0 R) (r0 R) []
theorem b3_ok (R:EP):TI prog R (sndC p1) (q1 R) fun z w=>b3 R (z 3) w:=ofT
noncomputable abbrev p2:Code:=dropC 1 (fstC p1)
noncomputable abbrev p3:Code:=loopC (blkC p2)
def b7_1 (R:EP) (C6:VP) (x3 x11 x13:Value) (w2:World) (_r:Tok R:=tok R) (_C6:Tok C6:=tok C6):Prop :=
 RUN prog R (indexAt 25 x11 x13) w2 fun v3 w4 =>
 RUN prog R (loadAt 67 v3) w4 fun v5 w6 =>
 RUN prog R (alloc 67 true (.tuple #[])) w6 fun v7 w8 =>
 RUNU prog R (storeAt 67 v7 v5) w8 fun w9 =>
 NILC x3 fun v10 =>
 PUR prog (fieldAt 88 v10 1) fun v11 =>
 LD prog (loadAt 86 v11) (World.drew w9) fun v12 =>
 PUR prog (fieldAt 67 v7 0) fun v13 =>
 LD prog (loadAt 3 v13) (World.drew w9) fun v14 =>
 NILC x3 fun v15 =>
 PUR prog (fieldAt 88 v15 1) fun v16 =>
 LD prog (loadAt 86 v16) (World.drew w9) fun v17 =>
 PUR prog (fieldAt 67 v7 0) fun v18 =>
 LD prog (loadAt 3 v18) (World.drew w9) fun v19 =>
 LD prog (lookup 86 v17 v19 false) (World.drew w9) fun v20 =>
 RUN prog R (buildSlice 24 1 #[(0,x13)]) (World.drew w9) fun v21 w22 =>
 Sem.run prog (lookup 86 v17 v19 false) w22 = .ok v20 w22∧(Sem.run prog (loadAt 3 v18) w22 = .ok v19 w22∧(Sem.run prog (loadAt 86 v16) w22 = .ok v17 w22∧(Sem.run prog (loadAt 3 v13) w22 = .ok v14 w22∧(Sem.run prog (loadAt 86 v11) w22 = .ok v12 w22∧(RUN prog R (Builtin.append_ #[24,24] 24 #[v20,v21]) w22 fun v23 w24 =>
 Sem.run prog (loadAt 3 v13) w24 = .ok v14 w24∧(Sem.run prog (loadAt 86 v11) w24 = .ok v12 w24∧(RUNU prog R (mapUpdate 86 v12 v14 v23) w24 fun w25 =>
 RUN prog R (bins .add 3 (.tmp 13) (.const (Value.int .i64 1)) x13 (Value.int .i64 1)) w25 fun v26 w27 =>
 C6 v26 w27)))))))
def b7 (R:EP) (C6:VP) (x3 x11 x12 x13:Value) (w:World) (_r:Tok R:=tok R) (_C6:Tok C6:=tok C6):Prop :=
 RUN prog R (bins .lss 3 (.tmp 13) (.tmp 12) x13 x12) w fun v1 w2 =>
 SPL v1
 (b7_1 R C6 x3 x11 x13 w2)
 (b3 R x3 w2)
abbrev q2 (R:EP) (C6:VP):XP:=QX (fun z w=>C6 (z 13) w) (r0 R) [(0,(fun z w=>b3 R (z 3) w))]
theorem b7_ok (R:EP) (C6:VP):TI prog R p3 (q2 R C6) fun z w=>b7 R C6 (z 3) (z 11) (z 12) (z 13) w:=ofT
def l6 (R:EP) (x3 x11 x12 x13:Value) (w:World) (_r:Tok R:=tok R):Prop :=
 ∃(J:VP) (μ:Value→World→Nat),J x13 w∧∀y13 w0,J y13 w0→b7 R (fun z13 w1=>J z13 w1∧μ z13 w1<μ y13 w0) x3 x11 x12 y13 w0
abbrev q3 (R:EP):XP:=QX (fun z w=>b3 R (z 3) w) (r0 R) [(0,(fun z w=>b3 R (z 3) w))]
theorem l6_ok (R:EP):TI prog R (blkC p2) (q3 R) fun z w=>l6 R (z 3) (z 11) (z 12) (z 13) w:=fun z w h=>by
 unfold l6 at h
 obtain ⟨J,μ,h0,hr⟩:=h
 refine loopT (fun z' w'=>J (z' 13) w') (fun z' w'=>μ (z' 13) w') h0 fun z' w' hA hI=>b7_ok R (fun z13 w1=>J z13 w1∧μ z13 w1<μ (z' 13) w') z' w' ?_
 have h1:=hr (z' 13) w' hI
 rwa [←hA.on 3,←hA.on 11,←hA.on 12] at h1
theorem l6_intro (R:EP) (x3 x11 x12 x13:Value) (w:World) (J:VP) (μ:Value→World→Nat) (h0:J x13 w)
   (hr:∀y13 w0,J y13 w0→∀C6:VP,(∀z13 w1,J z13 w1→μ z13 w1<μ y13 w0→C6 z13 w1)→b7 R C6 x3 x11 x12 y13 w0):l6 R x3 x11 x12 x13 w:=by
 unfold l6
 exact ⟨J,μ,h0,fun y13 w0 hJ=>hr y13 w0 hJ _ (fun z13 w1 h1 h2=>⟨h1,h2⟩)⟩
abbrev q4 (R:EP):XP:=QX (fun z w=>b3 R (z 3) w) (r0 R) []
theorem k5_ok (R:EP):TI prog R p2 (q4 R) fun z w=>l6 R (z 3) (z 11) (z 12) (z 13) w:=blockT 0 (l6_ok R)
def b4 (R:EP) (x1 x3:Value) (w:World) (_r:Tok R:=tok R):Prop :=
 RUN prog R (fieldAt 27 x1 4) w fun v1 w2 =>
 RUN prog R (loadAt 25 v1) w2 fun v3 w4 =>
 RUN prog R (Builtin.len_ #[25] 3 #[v3]) w4 fun v5 w6 =>
 l6 R x3 v3 v5 (Value.int .i64 0) w6
theorem b4_ok (R:EP):TI prog R (fstC p1) (q4 R) fun z w=>b4 R (z 1) (z 3) w:=appT 0 (k5_ok R)
theorem k2_ok (R:EP):TI prog R p1 (q1 R) fun z w=>b4 R (z 1) (z 3) w:=seqT (b4_ok R) (b3_ok R)
def b1 (R:EP) (x0:Value) (w:World) (_r:Tok R:=tok R):Prop :=
 RUN prog R (box 27 x0) w fun v1 w2 =>
 RUN prog R (loadAt 27 v1) w2 fun v3 w4 =>
 RUN prog R (makeMap 86 none) w4 fun v5 w6 =>
 RUN prog R (build 88 #[(0,v3),(1,v5)]) w6 fun v7 w8 =>
 RUN prog R (box 88 v7) w8 fun v9 w10 =>
 b4 R v1 v9 w10
theorem b1_ok (R:EP):TI prog R code (q1 R) fun z w=>b1 R (z 0) w:=appT 1 (k2_ok R)
def run (R:EP) (a0:Value) (w:World):Prop:=b1 R a0 w
theorem calls (R:EP) (a0:Value) (w:World) (h:run R a0 w):Calls prog id #[a0] w R:=cls_t func12 [a0] (b1_ok R _ w h)
theorem enters:Enters prog id:=fun args w=>call12 args w
theorem ct {a0:Value} {w:World} {S:VP} (h:∀R:EP,(∀v w,S v w→R (.returned v) w)→run R a0 w):Ct prog id #[a0] w S :=
 Ct.intro enters fun R hR=>calls R a0 w (h R hR)
attribute [irreducible] l6
attribute [irreducible,go_sem] b3 b7_1 b7 b4 b1 run
end lr0_of

/-! ### (*presage/lr0.table).intern -/
namespace lr0_table_intern
noncomputable def code:Code:=bodyOf f13
noncomputable abbrev p1:Code:=dropC 3 code

def b3 (R:EP) (x0 x1 x5:Value) (w:World) (_r:Tok R:=tok R):Prop :=
 NILC x0 fun v1 =>
 RUN prog R (fieldAt 54 v1 0) w fun v2 w3 =>
 RUN prog R (fieldAt 30 v2 2) w3 fun v4 w5 =>
 RUN prog R (loadAt 3 v4) w5 fun v6 w7 =>
 RUN prog R (bins .add 3 (.tmp 58) (.const (Value.int .i64 1)) v6 (Value.int .i64 1)) w7 fun v8 w9 =>
 NILC x0 fun v10 =>
 RUN prog R (fieldAt 54 v10 0) w9 fun v11 w12 =>
 RUN prog R (fieldAt 30 v11 2) w12 fun v13 w14 =>
 RUNU prog R (storeAt 3 v13 v8) w14 fun w15 =>
 NILC x0 fun v16 =>
 RUN prog R (fieldAt 54 v16 0) w15 fun v17 w18 =>
 RUN prog R (fieldAt 30 v17 0) w18 fun v19 w20 =>
 RUN prog R (loadAt 28 v19) w20 fun v21 w22 =>
 RUN prog R (build 48 #[(0,x1)]) w22 fun v23 w24 =>
 RUN prog R (buildSlice 28 1 #[(0,v23)]) w24 fun v25 w26 =>
 RUN prog R (Builtin.append_ #[28,28] 28 #[v21,v25]) w26 fun v27 w28 =>
 NILC x0 fun v29 =>
 RUN prog R (fieldAt 54 v29 0) w28 fun v30 w31 =>
 RUN prog R (fieldAt 30 v30 0) w31 fun v32 w33 =>
 RUNU prog R (storeAt 28 v32 v27) w33 fun w34 =>
 NILC x0 fun v35 =>
 PUR prog (fieldAt 54 v35 1) fun v36 =>
 LD prog (loadAt 52 v36) (World.drew w34) fun v37 =>
 NILC x0 fun v38 =>
 PUR prog (fieldAt 54 v38 0) fun v39 =>
 PUR prog (fieldAt 30 v39 0) fun v40 =>
 LD prog (loadAt 28 v40) (World.drew w34) fun v41 =>
 LD prog (Builtin.len_ #[28] 3 #[v41]) (World.drew w34) fun v42 =>
 RUNU prog R (mapUpdate 52 v37 x5 v42) (World.drew w34) fun w43 =>
 NILC x0 fun v44 =>
 RUN prog R (fieldAt 54 v44 1) w43 fun v45 w46 =>
 RUN prog R (loadAt 52 v45) w46 fun v47 w48 =>
 RUN prog R (lookup 52 v47 x5 false) w48 fun v49 w50 =>
 RUN prog R (bins .sub 3 (.tmp 92) (.const (Value.int .i64 1)) v49 (Value.int .i64 1)) w50 fun v51 w52 =>
 R (.returned v51) w52
abbrev r0 (R:EP) (z:Env) (w:World):Prop:=R (.returned (z 4)) w
abbrev q1 (R:EP):XP:=QX (r0 R) (r0 R) []
theorem b3_ok (R:EP):TI prog R (sndC p1) (q1 R) fun z w=>b3 R (z 0) (z 1) (z 5) w:=ofT
noncomputable abbrev p2:Code:=dropC 1 (fstC p1)
def b5_1 (R:EP) (x0 x5:Value) (w:World) (_r:Tok R:=tok R):Prop :=
 NILC x0 fun v1 =>
 RUN prog R (fieldAt 54 v1 1) w fun v2 w3 =>
 RUN prog R (loadAt 52 v2) w3 fun v4 w5 =>
 RUN prog R (lookup 52 v4 x5 false) w5 fun v6 w7 =>
 RUN prog R (bins .sub 3 (.tmp 52) (.const (Value.int .i64 1)) v6 (Value.int .i64 1)) w7 fun v8 w9 =>
 R (.returned v8) w9

def b5 (R:EP) (x0 x1 x5 x46:Value) (w:World) (_r:Tok R:=tok R):Prop :=
 SPL x46
 (b5_1 R x0 x5 w)
 (b3 R x0 x1 x5 w)
abbrev q2 (R:EP):XP:=QX (fun z w=>b3 R (z 0) (z 1) (z 5) w) (r0 R) []
theorem b5_ok (R:EP):TI prog R p2 (q2 R) fun z w=>b5 R (z 0) (z 1) (z 5) (z 46) w:=ofT
def b4_1 (R:EP) (x0 x1 x5:Value) (w:World) (_r:Tok R:=tok R):Prop :=
 NILC x0 fun v6 =>
 PUR prog (fieldAt 54 v6 0) fun v7 =>
 PUR prog (fieldAt 30 v7 0) fun v8 =>
 LD prog (loadAt 28 v8) (World.drew w) fun v9 =>
 NILC x0 fun v10 =>
 PUR prog (fieldAt 54 v10 1) fun v11 =>
 LD prog (loadAt 52 v11) (World.drew w) fun v12 =>
 LD prog (lookup 52 v12 x5 false) (World.drew w) fun v13 =>
 PUR prog (bins .sub 3 (.tmp 35) (.const (Value.int .i64 1)) v13 (Value.int .i64 1)) fun v14 =>
 PUR prog (indexAt 28 v9 v14) fun v15 =>
 PUR prog (fieldAt 48 v15 0) fun v16 =>
 LD prog (loadAt 39 v16) (World.drew w) fun v17 =>
 PUR prog (indexAt 39 v17 (Value.int .i64 0)) fun v18 =>
 LD prog (loadAt 57 v18) (World.drew w) fun v19 =>
 PUR prog (indexAt 39 x1 (Value.int .i64 0)) fun v20 =>
 LD prog (loadAt 57 v20) (World.drew w) fun v21 =>
 PUR prog (bins .eql 57 (.tmp 41) (.tmp 44) v19 v21) fun v22 =>
 b5 R x0 x1 x5 v22 (World.drew w)

def b4 (R:EP) (x0 x1 x5:Value) (w:World) (_r:Tok R:=tok R):Prop :=
 NILC x0 fun v1 =>
 PUR prog (fieldAt 54 v1 1) fun v2 =>
 LD prog (loadAt 52 v2) (World.drew w) fun v3 =>
 LD prog (lookup 52 v3 x5 false) (World.drew w) fun v4 =>
 PUR prog (bins .gtr 3 (.tmp 22) (.const (Value.int .i64 0)) v4 (Value.int .i64 0)) fun v5 =>
 SPL v5
 (b4_1 R x0 x1 x5 w)
 (b5 R x0 x1 x5 (Value.bool false) (World.drew w))
theorem b4_ok (R:EP):TI prog R (fstC p1) (q2 R) fun z w=>b4 R (z 0) (z 1) (z 5) w:=appT 0 (b5_ok R)
theorem k2_ok (R:EP):TI prog R p1 (q1 R) fun z w=>b4 R (z 0) (z 1) (z 5) w:=seqT (b4_ok R) (b3_ok R)

def b1 (R:EP) (x0 x1:Value) (w:World) (_r:Tok R:=tok R):Prop :=
 NILC x0 fun v1 =>
 RUN prog R (fieldAt 54 v1 0) w fun v2 w3 =>
 RUN prog R (fieldAt 30 v2 1) w3 fun v4 w5 =>
 RUN prog R (loadAt 3 v4) w5 fun v6 w7 =>
 RUN prog R (bins .add 3 (.tmp 10) (.const (Value.int .i64 1)) v6 (Value.int .i64 1)) w7 fun v8 w9 =>
 NILC x0 fun v10 =>
 RUN prog R (fieldAt 54 v10 0) w9 fun v11 w12 =>
 RUN prog R (fieldAt 30 v11 1) w12 fun v13 w14 =>
 RUNU prog R (storeAt 3 v13 v8) w14 fun w15 =>
 CALL prog R lr0_key.id #[x1] w15 fun v16 w17 =>
 b4 R x0 x1 v16 w17
theorem b1_ok (R:EP):TI prog R code (q1 R) fun z w=>b1 R (z 0) (z 1) w:=appT 2 (k2_ok R)
def run (R:EP) (a0 a1:Value) (w:World):Prop:=b1 R a0 a1 w
theorem calls (R:EP) (a0 a1:Value) (w:World) (h:run R a0 a1 w):Calls prog id #[a0,a1] w R:=cls_t func13 [a0,a1] (b1_ok R _ w h)
theorem enters:Enters prog id:=fun args w=>call13 args w
theorem ct {a0 a1:Value} {w:World} {S:VP} (h:∀R:EP,(∀v w,S v w→R (.returned v) w)→run R a0 a1 w):Ct prog id #[a0,a1] w S :=
 Ct.intro enters fun R hR=>calls R a0 a1 w (h R hR)
attribute [irreducible,go_sem] b3 b5_1 b5 b4_1 b4 b1 run
end lr0_table_intern

/-! ### (*presage/lr0.maker).kernels -/
namespace lr0_maker_kernels
noncomputable def code:Code:=bodyOf f14
noncomputable abbrev p1:Code:=dropC 2 code
def b3 (R:EP) (x5:Value) (w:World) (_r:Tok R:=tok R):Prop :=
 R (.returned x5) w
abbrev r0 (R:EP) (z:Env) (w:World):Prop:=R (.returned (z 4)) w
abbrev q1 (R:EP):XP:=QX (r0 R) (r0 R) []
theorem b3_ok (R:EP):TI prog R (sndC p1) (q1 R) fun z w=>b3 R (z 5) w:=ofT
noncomputable abbrev p2:Code:=dropC 1 (fstC p1)
noncomputable abbrev p3:Code:=loopC (blkC p2)
noncomputable abbrev p4:Code:=dropC 3 p3

def b8 (R:EP) (C6:VP) (x14:Value) (w:World) (_r:Tok R:=tok R) (_C6:Tok C6:=tok C6):Prop :=
 RUN prog R (bins .add 3 (.tmp 14) (.const (Value.int .i64 1)) x14 (Value.int .i64 1)) w fun v1 w2 =>
 C6 v1 w2
abbrev q2 (R:EP) (C6:VP):XP:=QX (fun z w=>C6 (z 14) w) (r0 R) [(0,(fun z w=>b3 R (z 5) w))]
theorem b8_ok (R:EP) (C6:VP):TI prog R p4 (q2 R C6) fun z w=>b8 R C6 (z 14) w:=ofT
def b7_1 (R:EP) (C6:VP) (x5 x14 v7 v12:Value) (w15:World) (_r:Tok R:=tok R) (_C6:Tok C6:=tok C6):Prop :=
 RUN prog R (lookup 58 x5 v12 false) w15 fun v16 w17 =>
 RUN prog R (fieldAt 57 v7 0) w17 fun v18 w19 =>
 RUN prog R (loadAt 3 v18) w19 fun v20 w21 =>
 RUN prog R (fieldAt 57 v7 1) w21 fun v22 w23 =>
 RUN prog R (loadAt 3 v22) w23 fun v24 w25 =>
 RUN prog R (bins .add 3 (.tmp 31) (.const (Value.int .i64 1)) v24 (Value.int .i64 1)) w25 fun v26 w27 =>
 RUN prog R (build 57 #[(0,v20),(1,v26)]) w27 fun v28 w29 =>
 RUN prog R (buildSlice 39 1 #[(0,v28)]) w29 fun v30 w31 =>
 RUN prog R (Builtin.append_ #[39,39] 39 #[v16,v30]) w31 fun v32 w33 =>
 RUNU prog R (mapUpdate 58 x5 v12 v32) w33 fun w34 =>
 b8 R C6 x14 w34
def b7_2 (R:EP) (C6:VP) (x0 x5 x12 x14:Value) (w2:World) (_r:Tok R:=tok R) (_C6:Tok C6:=tok C6):Prop :=
 RUN prog R (indexAt 39 x12 x14) w2 fun v3 w4 =>
 RUN prog R (loadAt 57 v3) w4 fun v5 w6 =>
 RUN prog R (alloc 57 true (.tuple #[])) w6 fun v7 w8 =>
 RUNU prog R (storeAt 57 v7 v5) w8 fun w9 =>
 RUN prog R (loadAt 57 v7) w9 fun v10 w11 =>
 CALL prog R lr0_maker_behind.id #[x0,v10] w11 fun v12 w13 =>
 RUN prog R (bins .geq 3 (.tmp 21) (.const (Value.int .i64 0)) v12 (Value.int .i64 0)) w13 fun v14 w15 =>
 SPL v14
 (b7_1 R C6 x5 x14 v7 v12 w15)
 (b8 R C6 x14 w15)
def b7 (R:EP) (C6:VP) (x0 x5 x12 x13 x14:Value) (w:World) (_r:Tok R:=tok R) (_C6:Tok C6:=tok C6):Prop :=
 RUN prog R (bins .lss 3 (.tmp 14) (.tmp 13) x14 x13) w fun v1 w2 =>
 SPL v1
 (b7_2 R C6 x0 x5 x12 x14 w2)
 (b3 R x5 w2)
theorem b7_ok (R:EP) (C6:VP):TI prog R p3 (q2 R C6) fun z w=>b7 R C6 (z 0) (z 5) (z 12) (z 13) (z 14) w:=appT 2 (b8_ok R C6)
def l6 (R:EP) (x0 x5 x12 x13 x14:Value) (w:World) (_r:Tok R:=tok R):Prop :=
 ∃(J:VP) (μ:Value→World→Nat),J x14 w∧∀y14 w0,J y14 w0→b7 R (fun z14 w1=>J z14 w1∧μ z14 w1<μ y14 w0) x0 x5 x12 x13 y14 w0
abbrev q3 (R:EP):XP:=QX (fun z w=>b3 R (z 5) w) (r0 R) [(0,(fun z w=>b3 R (z 5) w))]
theorem l6_ok (R:EP):TI prog R (blkC p2) (q3 R) fun z w=>l6 R (z 0) (z 5) (z 12) (z 13) (z 14) w:=fun z w h=>by
 unfold l6 at h
 obtain ⟨J,μ,h0,hr⟩:=h
 refine loopT (fun z' w'=>J (z' 14) w') (fun z' w'=>μ (z' 14) w') h0 fun z' w' hA hI=>b7_ok R (fun z14 w1=>J z14 w1∧μ z14 w1<μ (z' 14) w') z' w' ?_
 have h1:=hr (z' 14) w' hI
 rwa [←hA.on 0,←hA.on 5,←hA.on 12,←hA.on 13] at h1
theorem l6_intro (R:EP) (x0 x5 x12 x13 x14:Value) (w:World) (J:VP) (μ:Value→World→Nat) (h0:J x14 w)
   (hr:∀y14 w0,J y14 w0→∀C6:VP,(∀z14 w1,J z14 w1→μ z14 w1<μ y14 w0→C6 z14 w1)→b7 R C6 x0 x5 x12 x13 y14 w0):l6 R x0 x5 x12 x13 x14 w:=by
 unfold l6
 exact ⟨J,μ,h0,fun y14 w0 hJ=>hr y14 w0 hJ _ (fun z14 w1 h1 h2=>⟨h1,h2⟩)⟩
abbrev q4 (R:EP):XP:=QX (fun z w=>b3 R (z 5) w) (r0 R) []
theorem k5_ok (R:EP):TI prog R p2 (q4 R) fun z w=>l6 R (z 0) (z 5) (z 12) (z 13) (z 14) w:=blockT 0 (l6_ok R)
def b4 (R:EP) (x0 x1 x5:Value) (w:World) (_r:Tok R:=tok R):Prop :=
 CALL prog R lr0_maker_closure.id #[x0,x1] w fun v1 w2 =>
 RUN prog R (Builtin.len_ #[39] 3 #[v1]) w2 fun v3 w4 =>
 l6 R x0 x5 v1 v3 (Value.int .i64 0) w4
theorem b4_ok (R:EP):TI prog R (fstC p1) (q4 R) fun z w=>b4 R (z 0) (z 1) (z 5) w:=appT 0 (k5_ok R)
theorem k2_ok (R:EP):TI prog R p1 (q1 R) fun z w=>b4 R (z 0) (z 1) (z 5) w:=seqT (b4_ok R) (b3_ok R)
def b1 (R:EP) (x0 x1:Value) (w:World) (_r:Tok R:=tok R):Prop :=
 RUN prog R (makeMap 58 none) w fun v1 w2 =>
 b4 R x0 x1 v1 w2
theorem b1_ok (R:EP):TI prog R code (q1 R) fun z w=>b1 R (z 0) (z 1) w:=appT 1 (k2_ok R)
def run (R:EP) (a0 a1:Value) (w:World):Prop:=b1 R a0 a1 w
theorem calls (R:EP) (a0 a1:Value) (w:World) (h:run R a0 a1 w):Calls prog id #[a0,a1] w R:=cls_t func14 [a0,a1] (b1_ok R _ w h)
theorem enters:Enters prog id:=fun args w=>call14 args w
theorem ct {a0 a1:Value} {w:World} {S:VP} (h:∀R:EP,(∀v w,S v w→R (.returned v) w)→run R a0 a1 w):Ct prog id #[a0,a1] w S :=
 Ct.intro enters fun R hR=>calls R a0 a1 w (h R hR)
attribute [irreducible] l6
attribute [irreducible,go_sem] b3 b8 b7_1 b7_2 b7 b4 b1 run
end lr0_maker_kernels

/-! ### presage/lr0.laid -/
namespace lr0_laid
noncomputable def code:Code:=bodyOf f16
def b1_1 (R:EP) (x0:Value) (w2:World) (_r:Tok R:=tok R):Prop :=
 CALL prog R slices_Compact_api_Item_api_Item.id #[x0] w2 fun v3 w4 =>
 CALL prog R slices_Clip_api_Item_api_Item.id #[v3] w4 fun v5 w6 =>
 R (.returned v5) w6
def b1 (R:EP) (x0:Value) (w:World) (_r:Tok R:=tok R):Prop :=
 CALL prog R slices_SortFunc_api_Item_api_Item.id #[x0,(Value.func (.func lr0_laid_1.id) #[] #[])] w fun v1 w2 =>
 b1_1 R x0 w2
abbrev r0 (R:EP) (z:Env) (w:World):Prop:=R (.returned (z 2)) w
abbrev q1 (R:EP):XP:=QX (r0 R) (r0 R) []
theorem b1_ok (R:EP):TI prog R code (q1 R) fun z w=>b1 R (z 0) w:=ofT
def run (R:EP) (a0:Value) (w:World):Prop:=b1 R a0 w
theorem calls (R:EP) (a0:Value) (w:World) (h:run R a0 w):Calls prog id #[a0] w R:=cls_t func16 [a0] (b1_ok R _ w h)
theorem enters:Enters prog id:=fun args w=>call16 args w
theorem ct {a0:Value} {w:World} {S:VP} (h:∀R:EP,(∀v w,S v w→R (.returned v) w)→run R a0 w):Ct prog id #[a0] w S :=
 Ct.intro enters fun R hR=>calls R a0 w (h R hR)
attribute [irreducible,go_sem] b1_1 b1 run
end lr0_laid

/-! ### (*presage/lr0.maker).fits -/
namespace lr0_maker_fits
noncomputable def code:Code:=bodyOf f26
noncomputable abbrev p1:Code:=dropC 1 code

def b3 (R:EP) (w:World) (_r:Tok R:=tok R):Prop :=
 R (.returned (Value.bool true)) w
abbrev r0 (R:EP) (z:Env) (w:World):Prop:=R (.returned (z 4)) w
abbrev q1 (R:EP):XP:=QX (r0 R) (r0 R) []
theorem b3_ok (R:EP):TI prog R (sndC p1) (q1 R) fun z w=>b3 R w:=ofT
noncomputable abbrev p2:Code:=dropC 1 (fstC p1)
noncomputable abbrev p3:Code:=loopC (blkC p2)
noncomputable abbrev p4:Code:=dropC 2 p3

def b9 (R:EP) (C6:VP) (x9:Value) (w:World) (_r:Tok R:=tok R) (_C6:Tok C6:=tok C6):Prop :=
 RUN prog R (bins .add 3 (.tmp 9) (.const (Value.int .i64 1)) x9 (Value.int .i64 1)) w fun v1 w2 =>
 C6 v1 w2
abbrev q2 (R:EP) (C6:VP):XP:=QX (fun z w=>C6 (z 9) w) (r0 R) [(0,(fun z w=>b3 R  w))]
theorem b9_ok (R:EP) (C6:VP):TI prog R (sndC p4) (q2 R C6) fun z w=>b9 R C6 (z 9) w:=ofT
noncomputable abbrev p5:Code:=blkC (fstC p4)
noncomputable abbrev p6:Code:=dropC 2 p5

def b12 (R:EP) (C6:VP) (x9 x47:Value) (w:World) (_r:Tok R:=tok R) (_C6:Tok C6:=tok C6):Prop :=
 SPL x47
 (R (.returned (Value.bool false)) w)
 (b9 R C6 x9 w)
abbrev q3 (R:EP) (C6:VP):XP:=QX (fun z w=>b9 R C6 (z 9) w) (r0 R) [(2,(fun z w=>b9 R C6 (z 9) w)),(0,(fun z w=>b3 R  w))]
theorem b12_ok (R:EP) (C6:VP):TI prog R p6 (q3 R C6) fun z w=>b12 R C6 (z 9) (z 47) w:=ofT
def b11_1 (R:EP) (C6:VP) (x0 x9 v5:Value) (w7:World) (_r:Tok R:=tok R) (_C6:Tok C6:=tok C6):Prop :=
 PUR prog (fieldAt 57 v5 1) fun v22 =>
 LD prog (loadAt 3 v22) (World.drew w7) fun v23 =>
 NILC x0 fun v24 =>
 PUR prog (fieldAt 88 v24 0) fun v25 =>
 PUR prog (fieldAt 27 v25 4) fun v26 =>
 LD prog (loadAt 25 v26) (World.drew w7) fun v27 =>
 PUR prog (fieldAt 57 v5 0) fun v28 =>
 LD prog (loadAt 3 v28) (World.drew w7) fun v29 =>
 PUR prog (indexAt 25 v27 v29) fun v30 =>
 PUR prog (fieldAt 67 v30 1) fun v31 =>
 LD prog (loadAt 24 v31) (World.drew w7) fun v32 =>
 LD prog (Builtin.len_ #[24] 3 #[v32]) (World.drew w7) fun v33 =>
 PUR prog (bins .gtr 3 (.tmp 34) (.tmp 45) v23 v33) fun v34 =>
 b12 R C6 x9 v34 (World.drew w7)
def b11_2 (R:EP) (C6:VP) (x0 x9 v5:Value) (w7:World) (_r:Tok R:=tok R) (_C6:Tok C6:=tok C6):Prop :=
 PUR prog (fieldAt 57 v5 1) fun v19 =>
 LD prog (loadAt 3 v19) (World.drew w7) fun v20 =>
 PUR prog (bins .lss 3 (.tmp 29) (.const (Value.int .i64 0)) v20 (Value.int .i64 0)) fun v21 =>
 SPL v21
 (b12 R C6 x9 (Value.bool true) (World.drew w7))
 (b11_1 R C6 x0 x9 v5 w7)
def b11_3 (R:EP) (C6:VP) (x0 x9 v5:Value) (w7:World) (_r:Tok R:=tok R) (_C6:Tok C6:=tok C6):Prop :=
 PUR prog (fieldAt 57 v5 0) fun v11 =>
 LD prog (loadAt 3 v11) (World.drew w7) fun v12 =>
 NILC x0 fun v13 =>
 PUR prog (fieldAt 88 v13 0) fun v14 =>
 PUR prog (fieldAt 27 v14 4) fun v15 =>
 LD prog (loadAt 25 v15) (World.drew w7) fun v16 =>
 LD prog (Builtin.len_ #[25] 3 #[v16]) (World.drew w7) fun v17 =>
 PUR prog (bins .geq 3 (.tmp 18) (.tmp 24) v12 v17) fun v18 =>
 SPL v18
 (b12 R C6 x9 (Value.bool true) (World.drew w7))
 (b11_2 R C6 x0 x9 v5 w7)
def b11 (R:EP) (C6:VP) (x0 x7 x9:Value) (w:World) (_r:Tok R:=tok R) (_C6:Tok C6:=tok C6):Prop :=
 RUN prog R (indexAt 39 x7 x9) w fun v1 w2 =>
 RUN prog R (loadAt 57 v1) w2 fun v3 w4 =>
 RUN prog R (alloc 57 true (.tuple #[])) w4 fun v5 w6 =>
 RUNU prog R (storeAt 57 v5 v3) w6 fun w7 =>
 PUR prog (fieldAt 57 v5 0) fun v8 =>
 LD prog (loadAt 3 v8) (World.drew w7) fun v9 =>
 PUR prog (bins .lss 3 (.tmp 14) (.const (Value.int .i64 0)) v9 (Value.int .i64 0)) fun v10 =>
 SPL v10
 (b12 R C6 x9 (Value.bool true) (World.drew w7))
 (b11_3 R C6 x0 x9 v5 w7)
theorem b11_ok (R:EP) (C6:VP):TI prog R p5 (q3 R C6) fun z w=>b11 R C6 (z 0) (z 7) (z 9) w:=appT 1 (b12_ok R C6)
abbrev q4 (R:EP) (C6:VP):XP:=QX (fun z w=>b9 R C6 (z 9) w) (r0 R) [(0,(fun z w=>b3 R  w))]
theorem k10_ok (R:EP) (C6:VP):TI prog R (fstC p4) (q4 R C6) fun z w=>b11 R C6 (z 0) (z 7) (z 9) w:=blockT 1 (b11_ok R C6)
theorem k8_ok (R:EP) (C6:VP):TI prog R p4 (q2 R C6) fun z w=>b11 R C6 (z 0) (z 7) (z 9) w:=seqT (k10_ok R C6) (b9_ok R C6)
def b7 (R:EP) (C6:VP) (x0 x7 x8 x9:Value) (w:World) (_r:Tok R:=tok R) (_C6:Tok C6:=tok C6):Prop :=
 RUN prog R (bins .lss 3 (.tmp 9) (.tmp 8) x9 x8) w fun v1 w2 =>
 SPL v1
 (b11 R C6 x0 x7 x9 w2)
 (b3 R w2)
theorem b7_ok (R:EP) (C6:VP):TI prog R p3 (q2 R C6) fun z w=>b7 R C6 (z 0) (z 7) (z 8) (z 9) w:=appT 1 (k8_ok R C6)
def l6 (R:EP) (x0 x7 x8 x9:Value) (w:World) (_r:Tok R:=tok R):Prop :=
 ∃(J:VP) (μ:Value→World→Nat),J x9 w∧∀y9 w0,J y9 w0→b7 R (fun z9 w1=>J z9 w1∧μ z9 w1<μ y9 w0) x0 x7 x8 y9 w0
abbrev q5 (R:EP):XP:=QX (fun z w=>b3 R  w) (r0 R) [(0,(fun z w=>b3 R  w))]
theorem l6_ok (R:EP):TI prog R (blkC p2) (q5 R) fun z w=>l6 R (z 0) (z 7) (z 8) (z 9) w:=fun z w h=>by
 unfold l6 at h
 obtain ⟨J,μ,h0,hr⟩:=h
 refine loopT (fun z' w'=>J (z' 9) w') (fun z' w'=>μ (z' 9) w') h0 fun z' w' hA hI=>b7_ok R (fun z9 w1=>J z9 w1∧μ z9 w1<μ (z' 9) w') z' w' ?_
 have h1:=hr (z' 9) w' hI
 rwa [←hA.on 0,←hA.on 7,←hA.on 8] at h1
theorem l6_intro (R:EP) (x0 x7 x8 x9:Value) (w:World) (J:VP) (μ:Value→World→Nat) (h0:J x9 w)
   (hr:∀y9 w0,J y9 w0→∀C6:VP,(∀z9 w1,J z9 w1→μ z9 w1<μ y9 w0→C6 z9 w1)→b7 R C6 x0 x7 x8 y9 w0):l6 R x0 x7 x8 x9 w:=by
 unfold l6
 exact ⟨J,μ,h0,fun y9 w0 hJ=>hr y9 w0 hJ _ (fun z9 w1 h1 h2=>⟨h1,h2⟩)⟩
abbrev q6 (R:EP):XP:=QX (fun z w=>b3 R  w) (r0 R) []
theorem k5_ok (R:EP):TI prog R p2 (q6 R) fun z w=>l6 R (z 0) (z 7) (z 8) (z 9) w:=blockT 0 (l6_ok R)
def b4 (R:EP) (x0 x1:Value) (w:World) (_r:Tok R:=tok R):Prop :=
 RUN prog R (Builtin.len_ #[39] 3 #[x1]) w fun v1 w2 =>
 l6 R x0 x1 v1 (Value.int .i64 0) w2
theorem b4_ok (R:EP):TI prog R (fstC p1) (q6 R) fun z w=>b4 R (z 0) (z 1) w:=appT 0 (k5_ok R)
theorem k2_ok (R:EP):TI prog R p1 (q1 R) fun z w=>b4 R (z 0) (z 1) w:=seqT (b4_ok R) (b3_ok R)
def b1 (R:EP) (x0 x1:Value) (w:World) (_r:Tok R:=tok R):Prop :=
 b4 R x0 x1 w
theorem b1_ok (R:EP):TI prog R code (q1 R) fun z w=>b1 R (z 0) (z 1) w:=appT 0 (k2_ok R)
def run (R:EP) (a0 a1:Value) (w:World):Prop:=b1 R a0 a1 w
theorem calls (R:EP) (a0 a1:Value) (w:World) (h:run R a0 a1 w):Calls prog id #[a0,a1] w R:=cls_t func26 [a0,a1] (b1_ok R _ w h)
theorem enters:Enters prog id:=fun args w=>call26 args w
theorem ct {a0 a1:Value} {w:World} {S:VP} (h:∀R:EP,(∀v w,S v w→R (.returned v) w)→run R a0 a1 w):Ct prog id #[a0,a1] w S :=
 Ct.intro enters fun R hR=>calls R a0 a1 w (h R hR)
attribute [irreducible] l6
attribute [irreducible,go_sem] b3 b9 b12 b11_1 b11_2 b11_3 b11 b7 b4 b1 run
end lr0_maker_fits

/-! ### (*presage/lr0.maker).closure -/
namespace lr0_maker_closure
noncomputable def code:Code:=bodyOf f27
noncomputable abbrev p1:Code:=dropC 3 code
def b3 (R:EP) (x5:Value) (w:World) (_r:Tok R:=tok R):Prop :=
 CALL prog R lr0_laid.id #[x5] w fun v1 w2 =>
 R (.returned v1) w2
abbrev r0 (R:EP) (z:Env) (w:World):Prop:=R (.returned (z 4)) w
abbrev q1 (R:EP):XP:=QX (r0 R) (r0 R) []
theorem b3_ok (R:EP):TI prog R (sndC p1) (q1 R) fun z w=>b3 R (z 5) w:=ofT
noncomputable abbrev p2:Code:=dropC 1 (fstC p1)
noncomputable abbrev p3:Code:=loopC (blkC p2)
noncomputable abbrev p4:Code:=dropC 1 p3
def b9 (R:EP) (C6:Value→VP) (x5 x7:Value) (w:World) (_r:Tok R:=tok R) (_C6:Tok C6:=tok C6):Prop :=
 RUN prog R (bins .add 3 (.tmp 18) (.const (Value.int .i64 1)) x7 (Value.int .i64 1)) w fun v1 w2 =>
 C6 x5 v1 w2
abbrev q2 (R:EP) (C6:Value→VP):XP:=QX (fun z w=>C6 (z 5) (z 7) w) (r0 R) [(0,(fun z w=>b3 R (z 5) w))]
theorem b9_ok (R:EP) (C6:Value→VP):TI prog R (sndC p4) (q2 R C6) fun z w=>b9 R C6 (z 5) (z 7) w:=ofT
noncomputable abbrev p5:Code:=blkC (fstC p4)
noncomputable abbrev p6:Code:=dropC 1 p5
noncomputable abbrev p7:Code:=dropC 2 (sndC p6)
noncomputable abbrev p8:Code:=loopC (blkC p7)
def b16_1 (R:EP) (C15:Value→VP) (x5 x43 x45:Value) (w2:World) (_r:Tok R:=tok R) (_C15:Tok C15:=tok C15):Prop :=
 RUN prog R (indexAt 24 x43 x45) w2 fun v3 w4 =>
 RUN prog R (loadAt 3 v3) w4 fun v5 w6 =>
 RUN prog R (build 57 #[(0,v5)]) w6 fun v7 w8 =>
 RUN prog R (buildSlice 39 1 #[(0,v7)]) w8 fun v9 w10 =>
 RUN prog R (Builtin.append_ #[39,39] 39 #[x5,v9]) w10 fun v11 w12 =>
 RUN prog R (bins .add 3 (.tmp 45) (.const (Value.int .i64 1)) x45 (Value.int .i64 1)) w12 fun v13 w14 =>
 C15 v11 v13 w14
def b16 (R:EP) (C6:Value→VP) (C15:Value→VP) (x5 x7 x43 x44 x45:Value) (w:World) (_r:Tok R:=tok R) (_C6:Tok C6:=tok C6) (_C15:Tok C15:=tok C15):Prop :=
 RUN prog R (bins .lss 3 (.tmp 45) (.tmp 44) x45 x44) w fun v1 w2 =>
 SPL v1
 (b16_1 R C15 x5 x43 x45 w2)
 (b9 R C6 x5 x7 w2)
abbrev q3 (R:EP) (C6:Value→VP) (C15:Value→VP):XP:=QX (fun z w=>C15 (z 5) (z 45) w) (r0 R) [(4,(fun z w=>b9 R C6 (z 5) (z 7) w)),(2,(fun z w=>b9 R C6 (z 5) (z 7) w)),(0,(fun z w=>b3 R (z 5) w))]
theorem b16_ok (R:EP) (C6:Value→VP) (C15:Value→VP):TI prog R p8 (q3 R C6 C15) fun z w=>b16 R C6 C15 (z 5) (z 7) (z 43) (z 44) (z 45) w:=ofT
def l15 (R:EP) (C6:Value→VP) (x5 x7 x43 x44 x45:Value) (w:World) (_r:Tok R:=tok R) (_C6:Tok C6:=tok C6):Prop :=
 ∃(J:Value→VP) (μ:Value→Value→World→Nat),J x5 x45 w∧∀y5 y45 w0,J y5 y45 w0→b16 R C6 (fun z5 z45 w1=>J z5 z45 w1∧μ z5 z45 w1<μ y5 y45 w0) y5 x7 x43 x44 y45 w0
abbrev q4 (R:EP) (C6:Value→VP):XP:=QX (fun z w=>b9 R C6 (z 5) (z 7) w) (r0 R) [(4,(fun z w=>b9 R C6 (z 5) (z 7) w)),(2,(fun z w=>b9 R C6 (z 5) (z 7) w)),(0,(fun z w=>b3 R (z 5) w))]
theorem l15_ok (R:EP) (C6:Value→VP):TI prog R (blkC p7) (q4 R C6) fun z w=>l15 R C6 (z 5) (z 7) (z 43) (z 44) (z 45) w:=fun z w h=>by
 unfold l15 at h
 obtain ⟨J,μ,h0,hr⟩:=h
 refine loopT (fun z' w'=>J (z' 5) (z' 45) w') (fun z' w'=>μ (z' 5) (z' 45) w') h0 fun z' w' hA hI=>b16_ok R C6 (fun z5 z45 w1=>J z5 z45 w1∧μ z5 z45 w1<μ (z' 5) (z' 45) w') z' w' ?_
 have h1:=hr (z' 5) (z' 45) w' hI
 rwa [←hA.on 7,←hA.on 43,←hA.on 44] at h1
theorem l15_intro (R:EP) (C6:Value→VP) (x5 x7 x43 x44 x45:Value) (w:World) (J:Value→VP) (μ:Value→Value→World→Nat) (h0:J x5 x45 w)
   (hr:∀y5 y45 w0,J y5 y45 w0→∀C15:Value→VP,(∀z5 z45 w1,J z5 z45 w1→μ z5 z45 w1<μ y5 y45 w0→C15 z5 z45 w1)→b16 R C6 C15 y5 x7 x43 x44 y45 w0):l15 R C6 x5 x7 x43 x44 x45 w:=by
 unfold l15
 exact ⟨J,μ,h0,fun y5 y45 w0 hJ=>hr y5 y45 w0 hJ _ (fun z5 z45 w1 h1 h2=>⟨h1,h2⟩)⟩
abbrev q5 (R:EP) (C6:Value→VP):XP:=QX (fun z w=>b9 R C6 (z 5) (z 7) w) (r0 R) [(2,(fun z w=>b9 R C6 (z 5) (z 7) w)),(0,(fun z w=>b3 R (z 5) w))]
theorem k14_ok (R:EP) (C6:Value→VP):TI prog R p7 (q5 R C6) fun z w=>l15 R C6 (z 5) (z 7) (z 43) (z 44) (z 45) w:=blockT 2 (l15_ok R C6)
def b13 (R:EP) (C6:Value→VP) (x0 x5 x6 x7 x8:Value) (w:World) (_r:Tok R:=tok R) (_C6:Tok C6:=tok C6):Prop :=
 RUN prog R (lookup 110 x6 x8 false) w fun v1 w2 =>
 RUN prog R (bins .add 3 (.tmp 36) (.const (Value.int .i64 1)) v1 (Value.int .i64 1)) w2 fun v3 w4 =>
 RUNU prog R (mapUpdate 110 x6 x8 v3) w4 fun w5 =>
 NILC x0 fun v6 =>
 RUN prog R (fieldAt 88 v6 1) w5 fun v7 w8 =>
 RUN prog R (loadAt 86 v7) w8 fun v9 w10 =>
 RUN prog R (lookup 86 v9 x8 false) w10 fun v11 w12 =>
 RUN prog R (Builtin.len_ #[24] 3 #[v11]) w12 fun v13 w14 =>
 l15 R C6 x5 x7 v11 v13 (Value.int .i64 0) w14
theorem b13_ok (R:EP) (C6:Value→VP):TI prog R (sndC p6) (q5 R C6) fun z w=>b13 R C6 (z 0) (z 5) (z 6) (z 7) (z 8) w:=appT 1 (k14_ok R C6)
noncomputable abbrev p9:Code:=dropC 1 (fstC p6)
def b18 (R:EP) (C6:Value→VP) (x0 x5 x6 x7 x8 x33:Value) (w:World) (_r:Tok R:=tok R) (_C6:Tok C6:=tok C6):Prop :=
 SPL x33
 (b9 R C6 x5 x7 w)
 (b13 R C6 x0 x5 x6 x7 x8 w)
abbrev q6 (R:EP) (C6:Value→VP):XP:=QX (fun z w=>b13 R C6 (z 0) (z 5) (z 6) (z 7) (z 8) w) (r0 R) [(2,(fun z w=>b9 R C6 (z 5) (z 7) w)),(0,(fun z w=>b3 R (z 5) w))]
theorem b18_ok (R:EP) (C6:Value→VP):TI prog R p9 (q6 R C6) fun z w=>b18 R C6 (z 0) (z 5) (z 6) (z 7) (z 8) (z 33) w:=ofT
def b17_1 (R:EP) (C6:Value→VP) (x0 x5 x6 x7 x8:Value) (w2:World) (_r:Tok R:=tok R) (_C6:Tok C6:=tok C6):Prop :=
 RUN prog R (lookup 110 x6 x8 false) w2 fun v3 w4 =>
 RUN prog R (bins .gtr 3 (.tmp 31) (.const (Value.int .i64 0)) v3 (Value.int .i64 0)) w4 fun v5 w6 =>
 b18 R C6 x0 x5 x6 x7 x8 v5 w6
def b17 (R:EP) (C6:Value→VP) (x0 x5 x6 x7 x8:Value) (w:World) (_r:Tok R:=tok R) (_C6:Tok C6:=tok C6):Prop :=
 RUN prog R (bins .lss 3 (.tmp 26) (.const (Value.int .i64 0)) x8 (Value.int .i64 0)) w fun v1 w2 =>
 SPL v1
 (b18 R C6 x0 x5 x6 x7 x8 (Value.bool true) w2)
 (b17_1 R C6 x0 x5 x6 x7 x8 w2)
theorem b17_ok (R:EP) (C6:Value→VP):TI prog R (fstC p6) (q6 R C6) fun z w=>b17 R C6 (z 0) (z 5) (z 6) (z 7) (z 8) w:=appT 0 (b18_ok R C6)
theorem k12_ok (R:EP) (C6:Value→VP):TI prog R p6 (q5 R C6) fun z w=>b17 R C6 (z 0) (z 5) (z 6) (z 7) (z 8) w:=seqT (b17_ok R C6) (b13_ok R C6)
def b11 (R:EP) (C6:Value→VP) (x0 x5 x6 x7:Value) (w:World) (_r:Tok R:=tok R) (_C6:Tok C6:=tok C6):Prop :=
 RUN prog R (indexAt 39 x5 x7) w fun v1 w2 =>
 RUN prog R (loadAt 57 v1) w2 fun v3 w4 =>
 CALL prog R lr0_maker_behind.id #[x0,v3] w4 fun v5 w6 =>
 b17 R C6 x0 x5 x6 x7 v5 w6
theorem b11_ok (R:EP) (C6:Value→VP):TI prog R p5 (q5 R C6) fun z w=>b11 R C6 (z 0) (z 5) (z 6) (z 7) w:=appT 0 (k12_ok R C6)
abbrev q7 (R:EP) (C6:Value→VP):XP:=QX (fun z w=>b9 R C6 (z 5) (z 7) w) (r0 R) [(0,(fun z w=>b3 R (z 5) w))]
theorem k10_ok (R:EP) (C6:Value→VP):TI prog R (fstC p4) (q7 R C6) fun z w=>b11 R C6 (z 0) (z 5) (z 6) (z 7) w:=blockT 1 (b11_ok R C6)
theorem k8_ok (R:EP) (C6:Value→VP):TI prog R p4 (q2 R C6) fun z w=>b11 R C6 (z 0) (z 5) (z 6) (z 7) w:=seqT (k10_ok R C6) (b9_ok R C6)
def b7 (R:EP) (C6:Value→VP) (x0 x5 x6 x7:Value) (w:World) (_r:Tok R:=tok R) (_C6:Tok C6:=tok C6):Prop :=
 RUN prog R (Builtin.len_ #[39] 3 #[x5]) w fun v1 w2 =>
 RUN prog R (bins .lss 3 (.tmp 14) (.tmp 16) x7 v1) w2 fun v3 w4 =>
 SPL v3
 (b11 R C6 x0 x5 x6 x7 w4)
 (b3 R x5 w4)
theorem b7_ok (R:EP) (C6:Value→VP):TI prog R p3 (q2 R C6) fun z w=>b7 R C6 (z 0) (z 5) (z 6) (z 7) w:=appT 0 (k8_ok R C6)
def l6 (R:EP) (x0 x5 x6 x7:Value) (w:World) (_r:Tok R:=tok R):Prop :=
 ∃(J:Value→VP) (μ:Value→Value→World→Nat),J x5 x7 w∧∀y5 y7 w0,J y5 y7 w0→b7 R (fun z5 z7 w1=>J z5 z7 w1∧μ z5 z7 w1<μ y5 y7 w0) x0 y5 x6 y7 w0
abbrev q8 (R:EP):XP:=QX (fun z w=>b3 R (z 5) w) (r0 R) [(0,(fun z w=>b3 R (z 5) w))]
theorem l6_ok (R:EP):TI prog R (blkC p2) (q8 R) fun z w=>l6 R (z 0) (z 5) (z 6) (z 7) w:=fun z w h=>by
 unfold l6 at h
 obtain ⟨J,μ,h0,hr⟩:=h
 refine loopT (fun z' w'=>J (z' 5) (z' 7) w') (fun z' w'=>μ (z' 5) (z' 7) w') h0 fun z' w' hA hI=>b7_ok R (fun z5 z7 w1=>J z5 z7 w1∧μ z5 z7 w1<μ (z' 5) (z' 7) w') z' w' ?_
 have h1:=hr (z' 5) (z' 7) w' hI
 rwa [←hA.on 0,←hA.on 6] at h1
theorem l6_intro (R:EP) (x0 x5 x6 x7:Value) (w:World) (J:Value→VP) (μ:Value→Value→World→Nat) (h0:J x5 x7 w)
   (hr:∀y5 y7 w0,J y5 y7 w0→∀C6:Value→VP,(∀z5 z7 w1,J z5 z7 w1→μ z5 z7 w1<μ y5 y7 w0→C6 z5 z7 w1)→b7 R C6 x0 y5 x6 y7 w0):l6 R x0 x5 x6 x7 w:=by
 unfold l6
 exact ⟨J,μ,h0,fun y5 y7 w0 hJ=>hr y5 y7 w0 hJ _ (fun z5 z7 w1 h1 h2=>⟨h1,h2⟩)⟩
abbrev q9 (R:EP):XP:=QX (fun z w=>b3 R (z 5) w) (r0 R) []
theorem k5_ok (R:EP):TI prog R p2 (q9 R) fun z w=>l6 R (z 0) (z 5) (z 6) (z 7) w:=blockT 0 (l6_ok R)
def b4 (R:EP) (x0 x5 x6:Value) (w:World) (_r:Tok R:=tok R):Prop :=
 l6 R x0 x5 x6 (Value.int .i64 0) w
theorem b4_ok (R:EP):TI prog R (fstC p1) (q9 R) fun z w=>b4 R (z 0) (z 5) (z 6) w:=appT 0 (k5_ok R)
theorem k2_ok (R:EP):TI prog R p1 (q1 R) fun z w=>b4 R (z 0) (z 5) (z 6) w:=seqT (b4_ok R) (b3_ok R)
def b1 (R:EP) (x0 x1:Value) (w:World) (_r:Tok R:=tok R):Prop :=
 CALL prog R slices_Clone_api_Item_api_Item.id #[x1] w fun v1 w2 =>
 RUN prog R (makeMap 110 none) w2 fun v3 w4 =>
 b4 R x0 v1 v3 w4
theorem b1_ok (R:EP):TI prog R code (q1 R) fun z w=>b1 R (z 0) (z 1) w:=appT 2 (k2_ok R)
def run (R:EP) (a0 a1:Value) (w:World):Prop:=b1 R a0 a1 w
theorem calls (R:EP) (a0 a1:Value) (w:World) (h:run R a0 a1 w):Calls prog id #[a0,a1] w R:=cls_t func27 [a0,a1] (b1_ok R _ w h)
theorem enters:Enters prog id:=fun args w=>call27 args w
theorem ct {a0 a1:Value} {w:World} {S:VP} (h:∀R:EP,(∀v w,S v w→R (.returned v) w)→run R a0 a1 w):Ct prog id #[a0,a1] w S :=
 Ct.intro enters fun R hR=>calls R a0 a1 w (h R hR)
attribute [irreducible] l15 l6
attribute [irreducible,go_sem] b3 b9 b16_1 b16 b13 b18 b17_1 b17 b11 b7 b4 b1 run
end lr0_maker_closure

/-! ### presage/lr0.key -/
namespace lr0_key
noncomputable def code:Code:=bodyOf f30
noncomputable abbrev p1:Code:=dropC 2 code
def b3 (R:EP) (x3:Value) (w:World) (_r:Tok R:=tok R):Prop :=
 RUN prog R (convert 117 9 x3) w fun v1 w2 =>
 R (.returned v1) w2
abbrev r0 (R:EP) (z:Env) (w:World):Prop:=R (.returned (z 2)) w
abbrev q1 (R:EP):XP:=QX (r0 R) (r0 R) []
theorem b3_ok (R:EP):TI prog R (sndC p1) (q1 R) fun z w=>b3 R (z 3) w:=ofT
noncomputable abbrev p2:Code:=dropC 1 (fstC p1)
noncomputable abbrev p3:Code:=loopC (blkC p2)
def b7_1 (R:EP) (C6:Value→VP) (x3 x6 x8:Value) (w2:World) (_r:Tok R:=tok R) (_C6:Tok C6:=tok C6):Prop :=
 RUN prog R (indexAt 39 x6 x8) w2 fun v3 w4 =>
 RUN prog R (loadAt 57 v3) w4 fun v5 w6 =>
 RUN prog R (alloc 57 true (.tuple #[])) w6 fun v7 w8 =>
 RUNU prog R (storeAt 57 v7 v5) w8 fun w9 =>
 RUN prog R (fieldAt 57 v7 0) w9 fun v10 w11 =>
 RUN prog R (loadAt 3 v10) w11 fun v12 w13 =>
 RUN prog R (convert 3 5 v12) w13 fun v14 w15 =>
 RUN prog R (fieldAt 57 v7 1) w15 fun v16 w17 =>
 RUN prog R (loadAt 3 v16) w17 fun v18 w19 =>
 RUN prog R (convert 3 5 v18) w19 fun v20 w21 =>
 RUN prog R (fieldAt 57 v7 1) w21 fun v22 w23 =>
 RUN prog R (loadAt 3 v22) w23 fun v24 w25 =>
 RUN prog R (bins .shr 3 (.tmp 20) (.const (Value.int .u64 8)) v24 (Value.int .u64 8)) w25 fun v26 w27 =>
 RUN prog R (convert 3 5 v26) w27 fun v28 w29 =>
 RUN prog R (buildSlice 117 3 #[(0,v14),(1,v20),(2,v28)]) w29 fun v30 w31 =>
 RUN prog R (Builtin.append_ #[117,117] 117 #[x3,v30]) w31 fun v32 w33 =>
 RUN prog R (bins .add 3 (.tmp 8) (.const (Value.int .i64 1)) x8 (Value.int .i64 1)) w33 fun v34 w35 =>
 C6 v32 v34 w35
def b7 (R:EP) (C6:Value→VP) (x3 x6 x7 x8:Value) (w:World) (_r:Tok R:=tok R) (_C6:Tok C6:=tok C6):Prop :=
 RUN prog R (bins .lss 3 (.tmp 8) (.tmp 7) x8 x7) w fun v1 w2 =>
 SPL v1
 (b7_1 R C6 x3 x6 x8 w2)
 (b3 R x3 w2)
abbrev q2 (R:EP) (C6:Value→VP):XP:=QX (fun z w=>C6 (z 3) (z 8) w) (r0 R) [(0,(fun z w=>b3 R (z 3) w))]
theorem b7_ok (R:EP) (C6:Value→VP):TI prog R p3 (q2 R C6) fun z w=>b7 R C6 (z 3) (z 6) (z 7) (z 8) w:=ofT
def l6 (R:EP) (x3 x6 x7 x8:Value) (w:World) (_r:Tok R:=tok R):Prop :=
 ∃(J:Value→VP) (μ:Value→Value→World→Nat),J x3 x8 w∧∀y3 y8 w0,J y3 y8 w0→b7 R (fun z3 z8 w1=>J z3 z8 w1∧μ z3 z8 w1<μ y3 y8 w0) y3 x6 x7 y8 w0
abbrev q3 (R:EP):XP:=QX (fun z w=>b3 R (z 3) w) (r0 R) [(0,(fun z w=>b3 R (z 3) w))]
theorem l6_ok (R:EP):TI prog R (blkC p2) (q3 R) fun z w=>l6 R (z 3) (z 6) (z 7) (z 8) w:=fun z w h=>by
 unfold l6 at h
 obtain ⟨J,μ,h0,hr⟩:=h
 refine loopT (fun z' w'=>J (z' 3) (z' 8) w') (fun z' w'=>μ (z' 3) (z' 8) w') h0 fun z' w' hA hI=>b7_ok R (fun z3 z8 w1=>J z3 z8 w1∧μ z3 z8 w1<μ (z' 3) (z' 8) w') z' w' ?_
 have h1:=hr (z' 3) (z' 8) w' hI
 rwa [←hA.on 6,←hA.on 7] at h1
theorem l6_intro (R:EP) (x3 x6 x7 x8:Value) (w:World) (J:Value→VP) (μ:Value→Value→World→Nat) (h0:J x3 x8 w)
   (hr:∀y3 y8 w0,J y3 y8 w0→∀C6:Value→VP,(∀z3 z8 w1,J z3 z8 w1→μ z3 z8 w1<μ y3 y8 w0→C6 z3 z8 w1)→b7 R C6 y3 x6 x7 y8 w0):l6 R x3 x6 x7 x8 w:=by
 unfold l6
 exact ⟨J,μ,h0,fun y3 y8 w0 hJ=>hr y3 y8 w0 hJ _ (fun z3 z8 w1 h1 h2=>⟨h1,h2⟩)⟩
abbrev q4 (R:EP):XP:=QX (fun z w=>b3 R (z 3) w) (r0 R) []
theorem k5_ok (R:EP):TI prog R p2 (q4 R) fun z w=>l6 R (z 3) (z 6) (z 7) (z 8) w:=blockT 0 (l6_ok R)
def b4 (R:EP) (x0 x3:Value) (w:World) (_r:Tok R:=tok R):Prop :=
 RUN prog R (Builtin.len_ #[39] 3 #[x0]) w fun v1 w2 =>
 l6 R x3 x0 v1 (Value.int .i64 0) w2
theorem b4_ok (R:EP):TI prog R (fstC p1) (q4 R) fun z w=>b4 R (z 0) (z 3) w:=appT 0 (k5_ok R)
theorem k2_ok (R:EP):TI prog R p1 (q1 R) fun z w=>b4 R (z 0) (z 3) w:=seqT (b4_ok R) (b3_ok R)
def b1 (R:EP) (x0:Value) (w:World) (_r:Tok R:=tok R):Prop :=
 b4 R x0 (Value.slice Option.none 0 0) w
theorem b1_ok (R:EP):TI prog R code (q1 R) fun z w=>b1 R (z 0) w:=appT 1 (k2_ok R)
def run (R:EP) (a0:Value) (w:World):Prop:=b1 R a0 w
theorem calls (R:EP) (a0:Value) (w:World) (h:run R a0 w):Calls prog id #[a0] w R:=cls_t func30 [a0] (b1_ok R _ w h)
theorem enters:Enters prog id:=fun args w=>call30 args w
theorem ct {a0:Value} {w:World} {S:VP} (h:∀R:EP,(∀v w,S v w→R (.returned v) w)→run R a0 w):Ct prog id #[a0] w S :=
 Ct.intro enters fun R hR=>calls R a0 w (h R hR)
attribute [irreducible] l6
attribute [irreducible,go_sem] b3 b7_1 b7 b4 b1 run
end lr0_key

/-! ### (*presage/lr0.maker).behind -/
namespace lr0_maker_behind
noncomputable def code:Code:=bodyOf f31
def b1_1 (R:EP) (v1 v11:Value) (w19:World) (_r:Tok R:=tok R):Prop :=
 RUN prog R (fieldAt 57 v1 1) w19 fun v20 w21 =>
 RUN prog R (loadAt 3 v20) w21 fun v22 w23 =>
 RUN prog R (indexAt 24 v11 v22) w23 fun v24 w25 =>
 RUN prog R (loadAt 3 v24) w25 fun v26 w27 =>
 R (.returned v26) w27
def b1 (R:EP) (x0 x1:Value) (w:World) (_r:Tok R:=tok R):Prop :=
 RUN prog R (box 57 x1) w fun v1 w2 =>
 NILC x0 fun v3 =>
 PUR prog (fieldAt 88 v3 0) fun v4 =>
 PUR prog (fieldAt 27 v4 4) fun v5 =>
 LD prog (loadAt 25 v5) (World.drew w2) fun v6 =>
 PUR prog (fieldAt 57 v1 0) fun v7 =>
 LD prog (loadAt 3 v7) (World.drew w2) fun v8 =>
 PUR prog (indexAt 25 v6 v8) fun v9 =>
 PUR prog (fieldAt 67 v9 1) fun v10 =>
 LD prog (loadAt 24 v10) (World.drew w2) fun v11 =>
 RUN prog R (fieldAt 57 v1 1) (World.drew w2) fun v12 w13 =>
 RUN prog R (loadAt 3 v12) w13 fun v14 w15 =>
 RUN prog R (Builtin.len_ #[24] 3 #[v11]) w15 fun v16 w17 =>
 RUN prog R (bins .eql 3 (.tmp 17) (.tmp 19) v14 v16) w17 fun v18 w19 =>
 SPL v18
 (R (.returned (Value.int .i64 (-1))) w19)
 (b1_1 R v1 v11 w19)
abbrev r0 (R:EP) (z:Env) (w:World):Prop:=R (.returned (z 4)) w
abbrev q1 (R:EP):XP:=QX (r0 R) (r0 R) []
theorem b1_ok (R:EP):TI prog R code (q1 R) fun z w=>b1 R (z 0) (z 1) w:=ofT
def run (R:EP) (a0 a1:Value) (w:World):Prop:=b1 R a0 a1 w
theorem calls (R:EP) (a0 a1:Value) (w:World) (h:run R a0 a1 w):Calls prog id #[a0,a1] w R:=cls_t func31 [a0,a1] (b1_ok R _ w h)
theorem enters:Enters prog id:=fun args w=>call31 args w
theorem ct {a0 a1:Value} {w:World} {S:VP} (h:∀R:EP,(∀v w,S v w→R (.returned v) w)→run R a0 a1 w):Ct prog id #[a0,a1] w S :=
 Ct.intro enters fun R hR=>calls R a0 a1 w (h R hR)
attribute [irreducible,go_sem] b1_1 b1 run
end lr0_maker_behind

/-! ### presage/lr0.laid$1 -/
namespace lr0_laid_1
noncomputable def code:Code:=bodyOf f35
def b1_1 (R:EP) (v13 v15:Value) (w16:World) (_r:Tok R:=tok R):Prop :=
 RUN prog R (buildSlice 24 2 #[(0,v13),(1,v15)]) w16 fun v17 w18 =>
 CALL prog R cmp_Or_int.id #[v17] w18 fun v19 w20 =>
 R (.returned v19) w20
def b1 (R:EP) (x0 x1:Value) (w:World) (_r:Tok R:=tok R):Prop :=
 RUN prog R (box 57 x0) w fun v1 w2 =>
 RUN prog R (box 57 x1) w2 fun v3 w4 =>
 PUR prog (fieldAt 57 v1 0) fun v5 =>
 LD prog (loadAt 3 v5) (World.drew w4) fun v6 =>
 PUR prog (fieldAt 57 v3 0) fun v7 =>
 LD prog (loadAt 3 v7) (World.drew w4) fun v8 =>
 PUR prog (fieldAt 57 v1 1) fun v9 =>
 LD prog (loadAt 3 v9) (World.drew w4) fun v10 =>
 PUR prog (fieldAt 57 v3 1) fun v11 =>
 LD prog (loadAt 3 v11) (World.drew w4) fun v12 =>
 CALL prog R cmp_Compare_int.id #[v6,v8] (World.drew w4) fun v13 w14 =>
 Sem.run prog (loadAt 3 v11) w14 = .ok v12 w14∧(Sem.run prog (loadAt 3 v9) w14 = .ok v10 w14∧(CALL prog R cmp_Compare_int.id #[v10,v12] w14 fun v15 w16 =>
 b1_1 R v13 v15 w16))
abbrev r0 (R:EP) (z:Env) (w:World):Prop:=R (.returned (z 4)) w
abbrev q1 (R:EP):XP:=QX (r0 R) (r0 R) []
theorem b1_ok (R:EP):TI prog R code (q1 R) fun z w=>b1 R (z 0) (z 1) w:=ofT
def run (R:EP) (a0 a1:Value) (w:World):Prop:=b1 R a0 a1 w
theorem calls (R:EP) (a0 a1:Value) (w:World) (h:run R a0 a1 w):Calls prog id #[a0,a1] w R:=cls_t func35 [a0,a1] (b1_ok R _ w h)
theorem enters:Enters prog id:=fun args w=>call35 args w
theorem ct {a0 a1:Value} {w:World} {S:VP} (h:∀R:EP,(∀v w,S v w→R (.returned v) w)→run R a0 a1 w):Ct prog id #[a0,a1] w S :=
 Ct.intro enters fun R hR=>calls R a0 a1 w (h R hR)
attribute [irreducible,go_sem] b1_1 b1 run
end lr0_laid_1
end Go.Proofs.Ytmoepnfobnpdiaa
