/-
  Texts of this claim: LzS, Lz2, LzE, Lz3, Gr1, Lo1, Lo2, Lo3, Lo4, Lo5, Tc4, Tp1.
-/
import Derived.Test.YtmoepnfobnpdiaaY04
import Derived.Shelf.SlSortCmp.WholeK
import Derived.Test.YtmoepnfobnpdiaaY10
import Derived.Test.YtmoepnfobnpdiaaY03
import Derived.Laws.StructEq
import Derived.Test.YtmoepnfobnpdiaaY05
import Derived.Test.YtmoepnfobnpdiaaY06
import Derived.Test.YtmoepnfobnpdiaaY07
set_option maxHeartbeats 1000000
set_option linter.unusedSimpArgs false
set_option linter.unusedVariables false
set_option maxRecDepth 100000
/-
  The library's sort of items, laid at this program: written by the kit's command, printed.
-/
namespace Go.Proofs.Ytmoepnfobnpdiaa
open Go.Proofs Go.Shelf
def sortIt_ren:Go.Shelf.Ren:=⟨fun | 6=>34 | 15=>33 | 14=>71 | 28=>69 | 29=>70 | 20=>88 | 21=>89 | 22=>90 | 23=>91 | 24=>92 | 25=>93 | 26=>94 | 27=>95 | 46=>98 | 47=>84 | 48=>85 | 49=>99 | 50=>100 | 57=>101 | n=>n,fun | 22=>39 | 24=>57 | 25=>97 | 3=>3 | 39=>93 | 0=>0 | 53=>128 | 55=>130 | 4=>4 | 46=>120 | 45=>119 | 50=>125 | 5=>5 | 9=>9 | 66=>139 | 70=>143 | 76=>151 | 77=>152 | n=>n,fun | n=>n⟩
theorem sortIt:Go.Proofs.SlLaysF0.n6 Try.prog sortIt_ren where
 mixed:=by kernel_rfl
 f6:=⟨ "slices.SortFunc[[]presage/api.Item,presage/api.Item]",by decide,Try.func34.trans (congrArg some (by kernel_rfl))⟩
 f14:=⟨ "slices.pdqsortCmpFunc[presage/api.Item]",by decide,Try.func71.trans (congrArg some (by kernel_rfl))⟩
 f15:=Try.func33.trans (congrArg some (by kernel_rfl))
 f20:=⟨ "slices.insertionSortCmpFunc[presage/api.Item]",by decide,Try.func88.trans (congrArg some (by kernel_rfl))⟩
 f21:=⟨ "slices.heapSortCmpFunc[presage/api.Item]",by decide,Try.func89.trans (congrArg some (by kernel_rfl))⟩
 f22:=⟨ "slices.breakPatternsCmpFunc[presage/api.Item]",by decide,Try.func90.trans (congrArg some (by kernel_rfl))⟩
 f23:=⟨ "slices.choosePivotCmpFunc[presage/api.Item]",by decide,Try.func91.trans (congrArg some (by kernel_rfl))⟩
 f24:=⟨ "slices.reverseRangeCmpFunc[presage/api.Item]",by decide,Try.func92.trans (congrArg some (by kernel_rfl))⟩
 f25:=⟨ "slices.partialInsertionSortCmpFunc[presage/api.Item]",by decide,Try.func93.trans (congrArg some (by kernel_rfl))⟩
 f26:=⟨ "slices.partitionEqualCmpFunc[presage/api.Item]",by decide,Try.func94.trans (congrArg some (by kernel_rfl))⟩
 f27:=⟨ "slices.partitionCmpFunc[presage/api.Item]",by decide,Try.func95.trans (congrArg some (by kernel_rfl))⟩
 f28:=Try.func69.trans (congrArg some (by kernel_rfl))
 f29:=Try.func70.trans (congrArg some (by kernel_rfl))
 f46:=⟨ "slices.siftDownCmpFunc[presage/api.Item]",by decide,Try.func98.trans (congrArg some (by kernel_rfl))⟩
 f47:=Try.func84.trans (congrArg some (by kernel_rfl))
 f48:=Try.func85.trans (congrArg some (by kernel_rfl))
 f49:=⟨ "slices.medianAdjacentCmpFunc[presage/api.Item]",by decide,Try.func99.trans (congrArg some (by kernel_rfl))⟩
 f50:=⟨ "slices.medianCmpFunc[presage/api.Item]",by decide,Try.func100.trans (congrArg some (by kernel_rfl))⟩
 f57:=⟨ "slices.order2CmpFunc[presage/api.Item]",by decide,Try.func101.trans (congrArg some (by kernel_rfl))⟩
 t0:=Try.underlying0
 a0:=Try.isAgg0
 z0:=Try.sizeOf0
 v0:=Try.zeroValue0
 t3:=Try.underlying3
 a3:=Try.isAgg3
 z3:=Try.sizeOf3
 v3:=Try.zeroValue3
 t4:=Try.underlying4
 a4:=Try.isAgg4
 z4:=Try.sizeOf4
 v4:=Try.zeroValue4
 t5:=Try.underlying5
 a5:=Try.isAgg5
 z5:=Try.sizeOf5
 v5:=Try.zeroValue5
 t9:=Try.underlying9
 a9:=Try.isAgg9
 z9:=Try.sizeOf9
 v9:=Try.zeroValue9
 t22:=Try.underlying39
 a22:=Try.isAgg39
 z22:=Try.sizeOf39
 v22:=Try.zeroValue39
 t25:=Try.underlying97
 a25:=Try.isAgg97
 z25:=Try.sizeOf97
 v25:=Try.zeroValue97
 t39:=Try.underlying93
 a39:=Try.isAgg93
 z39:=Try.sizeOf93
 v39:=Try.zeroValue93
 t45:=Try.underlying119
 a45:=Try.isAgg119
 z45:=Try.sizeOf119
 v45:=Try.zeroValue119
 t46:=Try.underlying120
 a46:=Try.isAgg120
 z46:=Try.sizeOf120
 v46:=Try.zeroValue120
 t50:=Try.underlying125
 a50:=Try.isAgg125
 z50:=Try.sizeOf125
 v50:=Try.zeroValue125
 t53:=Try.underlying128
 a53:=Try.isAgg128
 z53:=Try.sizeOf128
 v53:=Try.zeroValue128
 t55:=Try.underlying130
 a55:=Try.isAgg130
 z55:=Try.sizeOf130
 v55:=Try.zeroValue130
 t66:=Try.underlying139
 a66:=Try.isAgg139
 z66:=Try.sizeOf139
 v66:=Try.zeroValue139
 t70:=Try.underlying143
 a70:=Try.isAgg143
 z70:=Try.sizeOf143
 v70:=Try.zeroValue143
 t76:=Try.underlying151
 a76:=Try.isAgg151
 z76:=Try.sizeOf151
 v76:=Try.zeroValue151
 t77:=Try.underlying152
 a77:=Try.isAgg152
 z77:=Try.sizeOf152
 v77:=Try.zeroValue152

end Go.Proofs.Ytmoepnfobnpdiaa

/-
  slices.SortFunc of items, as a contract over pieces.
-/
namespace Go.Proofs.Ytmoepnfobnpdiaa
open Go.Px Go.Px.Scan Go.Px.Cn Go.RowKit Go.Shelf Go.Lib Go.Sort
instance (x y:It):Decidable (itLt x y):=by unfold itLt;exact inferInstance
theorem lt_cmp (x y:It):ltOf cmpIt x y=decide (itLt x y):=by
 unfold ltOf cmpIt cmpI itLt
 by_cases h1:(x.1:Int)<y.1
 ·have h1':x.1<y.1:=by omega
  simp [h1,h1']
 ·by_cases h2:(y.1:Int)<x.1
  ·have h3:¬x.1<y.1:=by omega
   have h4:¬x.1=y.1:=by omega
   simp [h1,h2,h3,h4]
  ·have h3:x.1=y.1:=by omega
   simp only [h1,h2,if_false,ne_eq,not_true,h3,Nat.lt_irrefl,true_and,false_or]
   by_cases h5:(x.2:Int)<y.2
   ·have h5':x.2<y.2:=by omega
    simp [h5,h5']
   ·have h5':¬x.2<y.2:=by omega
    by_cases h6:(y.2:Int)<x.2 <;> simp [h5,h5',h6]
theorem swo_it:SWO (ltOf cmpIt) where
 irrefl x:=by rw [lt_cmp];simpa using itLt_ir x
 trans x y z h1 h2:=by rw [lt_cmp] at *;simp at *;exact itLt_tr _ _ _ h1 h2
 ntrans x y z h1 h2:=by
  rw [lt_cmp] at *
  simp only [decide_eq_false_iff_not] at *
  unfold itLt at *;omega
theorem flat_it (l:List It) (j:Nat) (hj:j<l.length*2):(flatK itV 2 l.toArray)[j]?=(l.flatMap itV)[j]?:=by
 have hi:j / 2<l.length:=by omega
 have hc:j % 2<2:=by omega
 have h1:=flat_at (enc:=itV) (size:=2) (fun _ _=>rfl) (List.getElem?_eq_getElem hi) hc
 rw [show j / 2*2+j % 2=j by omega] at h1
 rw [h1,flatK]
 simp only [List.size_toArray,Array.getElem?_map]
 rw [Array.getElem?_range,if_pos hj]
 simp only [Option.map_some]
 have e1:l.toArray[j / 2]! = l[j / 2]:=by simp [hi]
 rw [e1]
 have:(itV l[j / 2])[j % 2]?=some ((itV l[j / 2])[j % 2]'hc):=List.getElem?_eq_getElem hc
 rw [this,getElem!_pos (itV l[j / 2]) (j % 2) hc]
theorem holds_it {w:World} {a:Addr} {n c:Nat} {l:List It} {F:Nat→Prop} (h:(qC 2 a n c (l.flatMap itV)).ok w F):HoldsK itV 2 w a.block a.off l.toArray∧l.length=n:=by
 obtain ⟨h1,h2,h3,h4,h5,h6,h7,h8,h9⟩:=h
 have hl:l.length=n:=by rw [flat_len' (size:=2) l fun _ _=>rfl] at h1;omega
 refine ⟨fun j hj=>⟨?_,h9 _⟩,hl⟩
 rw [size_flatK] at hj
 have hj2:j<l.length*2:=by simpa using hj
 refine h7 j _ ?_
 rw [←flat_it l j hj2]
 have:j<(flatK itV 2 l.toArray).size:=by rw [size_flatK];exact hj
 rw [Array.getElem?_eq_getElem this,getElem!_pos (flatK itV 2 l.toArray) j this];rfl
theorem cmpLays_it (blk off size:Nat) (w:World):CmpLays Try.prog lr0_laid_1.id #[] itV 2 cmpIt blk off size w:=fun m os dk _ x y =>
 (cmp_ct x y (sortWorldK itV 2 w blk off m dk os)).2.mono fun e w' he=>by
  cases e with
  | returned v=>obtain ⟨rfl,h⟩:=he;exact ⟨rfl,h⟩
  | _=>exact he.elim
theorem sortW_heap (w:World) (blk off n:Nat) (d:Array It) (os:Array Obj) {i:Nat} (hi:i<w.heap.size) (hne:i≠blk):(sortWorldK itV 2 w blk off n d os).heap[i]?=w.heap[i]?:=by
 unfold sortWorldK putRowK putRow mapBlock grow
 simp only
 rw [Array.getElem?_append_left (by simpa using hi),Array.getElem?_modify,if_neg (Ne.symm hne)]
 rfl
theorem Sort_ct {G:Nat→Prop} {W w:World} {L:List Ch} {k n c:Nat} {a:Addr} {l:List It} (s:St G W w L) (hk:L[k]?=some (qC 2 a n c (l.flatMap itV))) (hn:n≤1000000) :
  Ct Try.prog slices_SortFunc_api_Item_api_Item.id #[.slice (some a) n c,.func (.func lr0_laid_1.id) #[] #[]] w fun v w'=>v = .tuple #[]∧∃l':List It,l'.Perm l∧l'.Pairwise (fun x y=>¬itLt y x)∧St G W w' (L.set k (qC 2 a n c (l'.flatMap itV))):=by
 obtain ⟨F,ho,hF,hs⟩:=s.opn hk
 obtain ⟨hH,hl⟩:=holds_it ho
 obtain ⟨h1,h2,h3,h4,h5,h6,h7,h8,h9⟩:=id ho
 obtain ⟨g,o,sp⟩:=a
 simp only at h4 h5 h6 h7 h8 h9 hH
 subst h4
 have hcon:=AnyQ.slices_SortFunc sortIt 2 Try.isAgg57 Try.sizeOf57 itV (fun _=>rfl) (fun x v hv=>by simp [itV] at hv;rcases hv with rfl | rfl <;> rfl) cmpIt swo_it lr0_laid_1.id #[] g o c l.toArray w (enters_of Try.func35 (by kernel_rfl) rfl) (cmpLays_it _ _ _ _) hH h6 (by simp;omega)
 refine ⟨sortIt.f6.enters rfl,?_⟩
 change Calls Try.prog 34 _ _ _ at hcon
 rw [List.size_toArray,hl] at hcon
 refine hcon.mono fun e w' he=>?_
 obtain ⟨rfl,d',m,os,hp,hsr,rfl⟩:=he
 have hsz:d'.size=l.toArray.size:=hp.1
 have hsz':d'.toList.length=n:=by simp;rw [hsz];simpa using hl
 have hH2:=holdsK_sortWorldK itV 2 w g o m l.toArray d' os h6 hH hsz
 have hcell:∀j (hj:j<n*2),(sortWorldK itV 2 w g o m d' os).cell? ⟨g,o+j,none⟩=some ((d'.toList.flatMap itV)[j]'(by rw [flat_len' (size:=2) _ fun _ _=>rfl,hsz'];exact hj)):=fun j hj=>by
  have:=(hH2 j (by rw [size_flatK,hsz,List.size_toArray,hl];exact hj)).1
  rw [this]
  have e:=flat_it d'.toList j (by rw [hsz'];exact hj)
  have hj2:j<(flatK itV 2 d'.toList.toArray).size:=by rw [size_flatK,List.size_toArray,hsz'];exact hj
  rw [Array.getElem?_eq_getElem hj2,List.getElem?_eq_getElem (by rw [flat_len' (size:=2) _ fun _ _=>rfl,hsz'];exact hj)] at e
  injection e with e
  rw [←e]
  simp only [Array.toArray_toList] at hj2 ⊢
  rw [getElem!_pos (flatK itV 2 d') j hj2];rfl
 have hfl:(d'.toList.flatMap itV).length=n*2:=by rw [flat_len' (size:=2) _ fun _ _=>rfl,hsz']
 have hlt:=lt_sortWorldK itV 2 w g o m d' os h6
 refine ⟨rfl,d'.toList,?_,?_,hs _ _ ⟨rfl,rfl,rfl,size_sortWorldK_c itV 2 w g o m d' os,fun i hi hF'=>sortW_heap w g o m d' os hi fun e=>hF' (e ▸ h5)⟩ ⟨hfl,h2,h3,rfl,Or.inl h5,hlt,fun j u hj=>?_,fun j hj=>?_,fun j=>?_⟩⟩
 ·have:=hp.2.2
  have e1:d'.extract 0 l.toArray.size=d':=by
   rw [←hsz];simp
  have e2:l.toArray.extract 0 l.toArray.size=l.toArray:=by simp
  rw [List.size_toArray,hl] at e1 e2
  rw [e1,e2] at this
  simpa using this
 ·rw [List.pairwise_iff_getElem]
  intro i j hi hj hij
  have:=hsr i j (Nat.zero_le _) hij (by rw [←hsz'];exact hj)
  rw [lt_cmp] at this
  have hi':i<d'.size:=by simpa using hi
  have hj':j<d'.size:=by simpa using hj
  rw [getElem!_pos d' i hi',getElem!_pos d' j hj'] at this
  simpa using this
 ·have hjl:=(List.getElem?_eq_some_iff.1 hj).1
  rw [hfl] at hjl
  rw [show (⟨g,o+j,none⟩:Addr)=⟨g,o+j,none⟩ from rfl,hcell j hjl,(List.getElem?_eq_some_iff.1 hj).2]
 ·by_cases hjn:j<n*2
  ·show ((sortWorldK itV 2 w g o m d' os).cell? ⟨g,o+j,none⟩).isSome=true
   rw [hcell j hjn];rfl
  ·show ((sortWorldK itV 2 w g o m d' os).cell? ⟨g,o+j,none⟩).isSome=true
   unfold sortWorldK putRowK
   rw [cell?_grow _ _ _ (by simpa using h6),cell?_putRow_other]
   ·exact h8 j hj
   ·refine Or.inr (Or.inr ?_)
    rw [size_flatK,hsz,List.size_toArray,hl]
    show o+n*2≤o+j
    omega
 ·unfold sortWorldK putRowK
  rw [frozen?_grow _ _ _ (by simpa using h6),frozen?_putRow]
  exact h9 j
end Go.Proofs.Ytmoepnfobnpdiaa

/-
  Items and items with lookaheads: are they the same?
-/
namespace Go.Proofs.Ytmoepnfobnpdiaa
open Go.Px Go.Px.Scan Go.Px.Cn Go.RowKit
theorem eqAgg57 (a b c d:Int) (w:World):(Op.equalIn 10000 57 (.agg #[.int .i64 a,.int .i64 b]) (.agg #[.int .i64 c,.int .i64 d])).run Try.prog w = .ok (a == c && b == d) w:=by
 have u3:=Try.underlying3
 have a3:=Try.isAgg3
 have z3:=Try.sizeOf3
 have hS:Try.prog.underlying 57=some (.struct (Try.prog.fieldsOf 57)):=by kernel_rfl
 have hp:Try.prog.stoodInHeld 57=false:=by kernel_rfl
 rw [show (10000:Nat)=9999+1 from rfl,run_equalIn_agg w 9999 57 _ _ hS hp]
 simp only [Program.fieldsOf,Try.underlying57]
 simp [go_sem]
 by_cases h1:a=c <;> by_cases h2:b=d <;> simp [h1,h2]
theorem eqIt (a b c d:Int) (t1 t2:Operand) (w:World):(bins .eql 57 t1 t2 (.agg #[.int .i64 a,.int .i64 b]) (.agg #[.int .i64 c,.int .i64 d])).run Try.prog w = .ok (.bool (a == c && b == d)) w:=by
 have hg:Try.prog.eqGuardType Try.prog.depth 57=false:=by kernel_rfl
 unfold bins
 rw [Sem.run_bind,run_eqGuard_agg w _ _ _ _ _ _ hg,Result.andThen_ok,run_eql_struct,eqAgg57];rfl
theorem neIt (a b c d:Int) (t1 t2:Operand) (w:World):(bins .neq 57 t1 t2 (.agg #[.int .i64 a,.int .i64 b]) (.agg #[.int .i64 c,.int .i64 d])).run Try.prog w = .ok (.bool (!(a == c && b == d))) w:=by
 have hg:Try.prog.eqGuardType Try.prog.depth 57=false:=by kernel_rfl
 unfold bins
 rw [Sem.run_bind,run_eqGuard_agg w _ _ _ _ _ _ hg,Result.andThen_ok,run_neq_struct,eqAgg57];rfl
theorem eqAgg79 (a b t c d u:Int) (w:World):(Op.equalIn 10000 79 (.agg #[.int .i64 a,.int .i64 b,.int .i64 t]) (.agg #[.int .i64 c,.int .i64 d,.int .i64 u])).run Try.prog w = .ok (a == c && b == d && t == u) w:=by
 have u3:=Try.underlying3
 have a3:=Try.isAgg3
 have z3:=Try.sizeOf3
 have a57:=Try.isAgg57
 have z57:=Try.sizeOf57
 have hS:Try.prog.underlying 79=some (.struct (Try.prog.fieldsOf 79)):=by kernel_rfl
 have hp:Try.prog.stoodInHeld 79=false:=by kernel_rfl
 have hS2:Try.prog.underlying 57=some (.struct (Try.prog.fieldsOf 57)):=by kernel_rfl
 have hp2:Try.prog.stoodInHeld 57=false:=by kernel_rfl
 rw [show (10000:Nat)=9999+1 from rfl,run_equalIn_agg w 9999 79 _ _ hS hp]
 simp only [Program.fieldsOf,Try.underlying79]
 simp [go_sem]
 by_cases h1:a=c <;> by_cases h2:b=d <;> by_cases h3:t=u <;> simp [h1,h2,h3]
theorem eqFl (a b t c d u:Int) (t1 t2:Operand) (w:World):(bins .eql 79 t1 t2 (.agg #[.int .i64 a,.int .i64 b,.int .i64 t]) (.agg #[.int .i64 c,.int .i64 d,.int .i64 u])).run Try.prog w = .ok (.bool (a == c && b == d && t == u)) w:=by
 have hg:Try.prog.eqGuardType Try.prog.depth 79=false:=by kernel_rfl
 unfold bins
 rw [Sem.run_bind,run_eqGuard_agg w _ _ _ _ _ _ hg,Result.andThen_ok,run_eql_struct,eqAgg79];rfl
theorem neFl (a b t c d u:Int) (t1 t2:Operand) (w:World):(bins .neq 79 t1 t2 (.agg #[.int .i64 a,.int .i64 b,.int .i64 t]) (.agg #[.int .i64 c,.int .i64 d,.int .i64 u])).run Try.prog w = .ok (.bool (!(a == c && b == d && t == u))) w:=by
 have hg:Try.prog.eqGuardType Try.prog.depth 79=false:=by kernel_rfl
 unfold bins
 rw [Sem.run_bind,run_eqGuard_agg w _ _ _ _ _ _ hg,Result.andThen_ok,run_neq_struct,eqAgg79];rfl
theorem slice_nil_eq (t:TypeId) {e:TypeId} (ht:Try.prog.underlying t=some (.slice e)) (A:Option Addr) (n c:Nat) (w:World):(binOp BinOp.eql t (.slice A n c) (.slice none 0 0)).run Try.prog w = .ok (.bool A.isNone) w:=by
 simp only [binOp,Op.equal]
 rw [show Op.maxDepth=9999+1 from rfl]
 unfold Op.equalIn
 cases A <;> simp [run_underlying ht,go_sem]

set_option maxRecDepth 100000 in
attribute [go_sem ↓] eqIt neIt eqFl neFl
end Go.Proofs.Ytmoepnfobnpdiaa

/-
  lr0.laid: items in order.
-/
namespace Go.Proofs.Ytmoepnfobnpdiaa
open Go.Px Go.Px.Scan Go.Px.Cn Go.RowKit
attribute [-go_sem] Builtin.append_ slices_Compact_api_Item_api_Item.b4 slices_Compact_api_Item_api_Item.b11 slices_Compact_api_Item_api_Item.b12 slices_Compact_api_Item_api_Item.b13 slices_Compact_api_Item_api_Item.b21 slices_Compact_api_Item_api_Item.b9 slices_Compact_api_Item_api_Item.b3 slices_Compact_api_Item_api_Item.b7 lr0_laid.b1_1
/-- An item in a queue of items. -/
theorem q_it {G:Nat→Prop} {W w:World} {L:List Ch} (s:St G W w L) (k:Nat) {a:Addr} {n c:Nat} {l:List It} (hk:L[k]?=some (qC 2 a n c (l.flatMap itV))):l.length=n∧n≤c∧c≤maxLen∧a.spot=none∧∀i x,l[i]?=some x→w.cell? ⟨a.block,a.off+i*2,none⟩=some (.int .i64 x.1)∧w.cell? ⟨a.block,a.off+i*2+1,none⟩=some (.int .i64 x.2):=by
 obtain ⟨h1,h2,h3,h4,h5⟩:=s.qAt k hk
 have hl:l.length=n:=by rw [flat_len' (size:=2) l fun _ _=>rfl] at h1;omega
 refine ⟨hl,h2,h3,h4,fun i x hx=>⟨?_,?_⟩⟩
 ·have:=flat_at (enc:=itV) (size:=2) (fun _ _=>rfl) hx (j:=0) (by omega)
  exact h5 (i*2) _ this
 ·have:=flat_at (enc:=itV) (size:=2) (fun _ _=>rfl) hx (j:=1) (by omega)
  rw [Nat.add_assoc]
  exact h5 (i*2+1) _ this
theorem Compact_ct {G:Nat→Prop} {W w:World} {L:List Ch} (s:St G W w L) {k n c:Nat} {a:Addr} {l:List It} (hk:L[k]?=some (qC 2 a n c (l.flatMap itV))) (hnd:l.Nodup) :
  Ct Try.prog slices_Compact_api_Item_api_Item.id #[.slice (some a) n c] w fun v w'=>v = .slice (some a) n c∧Chg noB w w':=by
 refine slices_Compact_api_Item_api_Item.ct fun R hR=>?_
 obtain ⟨hl,hnc,hcm,hsp,_⟩:=q_it s k hk
 obtain ⟨g,o,sp⟩:=a
 simp only at hsp
 subst hsp
 unfold slices_Compact_api_Item_api_Item.run
 simp -dsimp [go_sem]
 refine SPL_intro (fun p1=>?_) (fun p1=>?_)
 ·exact hR _ _ ⟨rfl,Chg.refl _ _⟩
 ·unfold slices_Compact_api_Item_api_Item.b4
  refine slices_Compact_api_Item_api_Item.l6_intro _ _ _ _ (fun y w'=>∃i:Nat,y = .int .i64 i∧1≤i∧Chg noB w w') (fun y _=>n+1-iv y) ⟨1,rfl,by omega,Chg.refl _ _⟩ ?_
  rintro _ w1 ⟨i,rfl,hi,hc1⟩ C hC
  unfold slices_Compact_api_Item_api_Item.b7
  simp -dsimp [go_sem]
  refine SPL_intro (fun p2=>?_) (fun p2=>?_) <;> simp at p2
  ·have wi:IntKind.i64.wrap ((i:Int)+1)=(i:Int)+1:=IntWalk.i64_in _ (by unfold maxLen at hcm;omega)
   obtain ⟨j,rfl⟩:∃j,i=j+1:=⟨i-1,by omega⟩
   have wj:IntKind.i64.wrap (((j+1:Nat):Int)-1)=(j:Int):=by rw [IntWalk.i64_in _ (by unfold maxLen at hcm;omega)];omega
   have wj':IntKind.i64.wrap ((j:Int)+1-1)=(j:Int):=by rw [IntWalk.i64_in _ (by unfold maxLen at hcm;omega)];omega
   have hj1:j+1<l.length:=by omega
   have hj0:j<l.length:=by omega
   have hjn:j<n:=by omega
   obtain ⟨_,_,_,_,hcells⟩:=q_it (s.old hc1) k hk
   obtain ⟨a1,a2⟩:=hcells (j+1) _ (List.getElem?_eq_getElem hj1)
   obtain ⟨b1,b2⟩:=hcells j _ (List.getElem?_eq_getElem hj0)
   simp only at a1 a2 b1 b2
   have hne:l[j+1]≠l[j]:=fun e=>by
    have:=(List.pairwise_iff_getElem.1 hnd) j (j+1) hj0 hj1 (by omega)
    exact this e.symm
   have hb1:(0:Int)≤(j:Int)+1∧(j:Int)+1<(n:Int):=⟨by omega,by omega⟩
   unfold slices_Compact_api_Item_api_Item.b11
   simp -dsimp [go_sem,p2,wj,wj',hb1,hjn,a1,a2,b1,b2]
   have hj0':(0:Int)≤(j:Int)∧(j:Int)<(n:Int):=⟨by omega,by omega⟩
   have wj2:IntKind.i64.wrap (j:Int)=(j:Int):=IntWalk.i64_in _ (by unfold maxLen at hcm;omega)
   simp -dsimp [go_sem,wj2,hj0',b1,b2]
   have hf:(((l[j+1].1:Nat):Int) == ((l[j].1:Nat):Int) && ((l[j+1].2:Nat):Int) == ((l[j].2:Nat):Int))=false:=by
    rw [Bool.eq_false_iff]
    intro h
    rw [Bool.and_eq_true,beq_iff_eq,beq_iff_eq] at h
    exact hne (Prod.ext (by exact_mod_cast h.1) (by exact_mod_cast h.2))
   rw [hf]
   unfold slices_Compact_api_Item_api_Item.b12
   simp -dsimp [go_sem]
   unfold slices_Compact_api_Item_api_Item.b21 slices_Compact_api_Item_api_Item.b9
   have wi':IntKind.i64.wrap ((j:Int)+1+1)=(j:Int)+1+1:=IntWalk.i64_in _ (by unfold maxLen at hcm;omega)
   simp -dsimp [go_sem,wi']
   exact hC _ _ ⟨j+1+1,by simp,by omega,hc1.trans ((Chg.refl _ _).drew)⟩ (by simp [iv];omega)
  ·unfold slices_Compact_api_Item_api_Item.b3
   exact hR _ _ ⟨rfl,hc1⟩
theorem Clip_ct {w:World} {a:Option Addr} {n c:Nat} (h:n≤c):Ct Try.prog slices_Clip_api_Item_api_Item.id #[.slice a n c] w fun v w'=>v = .slice a n n∧w=w':=by
 refine slices_Clip_api_Item_api_Item.ct fun R hR=>?_
 unfold slices_Clip_api_Item_api_Item.run
 cases a with
 | none =>
  simp -dsimp [go_sem,h]
  exact hR _ _ ⟨rfl,rfl⟩
 | some a =>
  simp -dsimp [go_sem,h]
  exact hR _ _ ⟨rfl,rfl⟩
/-- Items that are there once each, in order. -/
theorem laid_ct {G:Nat→Prop} {W w:World} {L:List Ch} (s:St G W w L) {k n c:Nat} {a:Addr} {l:List It} (hk:L[k]?=some (qC 2 a n c (l.flatMap itV))) (hnd:l.Nodup) (hn:n≤1000000) :
  Ct Try.prog lr0_laid.id #[.slice (some a) n c] w fun v w'=>v = .slice (some a) n n∧∃l':List It,l'.Perm l∧l'.Pairwise itLt∧St G W w' (L.set k (qC 2 a n n (l'.flatMap itV))):=by
 refine lr0_laid.ct fun R hR=>?_
 unfold lr0_laid.run
 simp -dsimp [go_sem]
 refine CALL_of (Sort_ct s hk hn) ?_
 rintro _ w1 ⟨rfl,l',hp,hsr,s1⟩
 have hkl:=(List.getElem?_eq_some_iff.1 hk).1
 have hk1:(L.set k (qC 2 a n c (l'.flatMap itV)))[k]?=some (qC 2 a n c (l'.flatMap itV)):=List.getElem?_set_self hkl
 have hnd1:l'.Nodup:=hp.nodup_iff.2 hnd
 unfold lr0_laid.b1_1
 refine CALL_of (Compact_ct s1 hk1 hnd1) ?_
 rintro _ w2 ⟨rfl,hc2⟩
 have s2:=s1.old hc2
 obtain ⟨_,hnc,_⟩:=q_it s1 k hk1
 refine CALL_of (Clip_ct hnc) ?_
 rintro _ _ ⟨rfl,rfl⟩
 refine hR _ _ ⟨rfl,l',hp,?_,?_⟩
 ·rw [List.pairwise_iff_getElem] at hsr ⊢
  intro i j hi hj hij
  have h1:=hsr i j hi hj hij
  have h2:=(List.pairwise_iff_getElem.1 hnd1) i j hi hj hij
  have h3:l'[i].1≠l'[j].1∨l'[i].2≠l'[j].2:=by
   refine Classical.byContradiction fun h=>h2 (Prod.ext ?_ ?_) <;> omega
  unfold itLt at *
  omega
 ·have:=s2.turn hk1 (d:=qC 2 a n n (l'.flatMap itV)) fun F ⟨h1,h2,h3,h4,h5,h6,h7,h8,h9⟩=>⟨h1,Nat.le_refl _,by omega,h4,h5,h6,h7,fun j hj=>h8 j (by have:=Nat.mul_le_mul_right 2 h2;omega),h9⟩
  rw [List.set_set] at this
  exact this
end Go.Proofs.Ytmoepnfobnpdiaa

/-
  The document's answer: terminals, levels, nonterminals that fit.
-/
namespace Go.Proofs.Ytmoepnfobnpdiaa
open Go.Px Go.Px.Scan Go.RowKit
attribute [-go_sem] Builtin.append_

/-- A grammar that was put into a box: what is read of it, as long as nothing old turns. -/
structure GRd (w:World) (B q:Nat) (g:Gr) (A1:Option Addr) (c1:Nat) (A2:Option Addr) (c2:Nat) (A3:Option Addr) (c3:Nat) (A4:Option Addr) (c4:Nat):Prop where
 k:(w.cell? ⟨q,0,none⟩=some (.slice A1 g.terms.length c1)∧w.cell? ⟨q,1,none⟩=some (.slice A2 g.nons.length c2)∧w.cell? ⟨q,2,none⟩=some (.slice A3 g.levels.length c3)∧w.cell? ⟨q,3,none⟩=some (.int .i64 g.start)∧w.cell? ⟨q,4,none⟩=some (.slice A4 g.prods.length c4))
 r1:(rSlice rTerm).at1 w B (.slice A1 g.terms.length c1) g.terms
 r2:(rSlice rStr).at1 w B (.slice A2 g.nons.length c2) g.nons
 r3:(rSlice rInt).at1 w B (.slice A3 g.levels.length c3) g.levels
 r4:(rSlice rPr).at1 w B (.slice A4 g.prods.length c4) g.prods
 sz:B≤w.heap.size

theorem box_all {w:World} {B:Nat} {v:Value} {g:Gr} (h:rGram.atN w B v g) (hB:B≤w.heap.size):∃A1 c1 A2 c2 A3 c3 A4 c4,v = .agg #[.slice A1 g.terms.length c1,.slice A2 g.nons.length c2,.slice A3 g.levels.length c3,.int .i64 g.start,.slice A4 g.prods.length c4] ∧
  (g.terms.length≤maxLen∧g.nons.length≤maxLen∧g.levels.length≤maxLen∧g.prods.length≤maxLen)∧inI64 g.start∧Chg noB w (w.alloc (.cells #[.slice A1 g.terms.length c1,.slice A2 g.nons.length c2,.slice A3 g.levels.length c3,.int .i64 g.start,.slice A4 g.prods.length c4] 27)) ∧
  ∀w',Chg noB (w.alloc (.cells #[.slice A1 g.terms.length c1,.slice A2 g.nons.length c2,.slice A3 g.levels.length c3,.int .i64 g.start,.slice A4 g.prods.length c4] 27)) w'→GRd w' B w.heap.size g A1 c1 A2 c2 A3 c3 A4 c4:=by
 obtain ⟨A1,c1,A2,c2,A3,c3,A4,c4,rfl,h1,h2,h3,h4,h5,⟨l1,m1⟩,⟨l2,m2⟩,⟨l3,m3⟩,⟨l4,m4⟩⟩:=(rGram_open h).ex
 have h0:=(St.refl noB w).alloc #[.slice A1 g.terms.length c1,.slice A2 g.nons.length c2,.slice A3 g.levels.length c3,.int .i64 g.start,.slice A4 g.prods.length c4] 27
 refine ⟨A1,c1,A2,c2,A3,c3,A4,c4,rfl,⟨by omega,by omega,by omega,by omega⟩,h4,h0.chg,fun w' hc=>?_⟩
 have h1':=h0.old hc
 have k0:=h1'.box 0 rfl
 simp [boxAt] at k0
 have hbl:=h1'.chg.below hB fun _ _=>id
 exact ⟨k0.1,Rep.below h1 hbl,Rep.below h2 hbl,Rep.below h3 hbl,Rep.below h5 hbl,by have:=h1'.chg.size;omega⟩

theorem Symbols_ct {w:World} {B:Nat} {v:Value} {g:Gr} (h:rGram.atN w B v g) (hB:B≤w.heap.size) (hs:g.terms.length+g.nons.length≤1000):Ct Try.prog ref02_Symbols.id #[v] w fun r w'=>r = .int .i64 ((g.terms.length:Int)+g.nons.length)∧Chg noB w w':=by
 refine ref02_Symbols.ct fun R hR=>?_
 obtain ⟨A1,c1,A2,c2,A3,c3,A4,c4,rfl,_,_,hc0,hg⟩:=box_all h hB
 unfold ref02_Symbols.run
 have ws:IntKind.i64.wrap ((g.terms.length:Int)+g.nons.length)=(g.terms.length:Int)+g.nons.length:=IntWalk.i64_in _ (by omega)
 simp -dsimp [go_sem,ws]
 exact hR _ _ ⟨rfl,hc0⟩

theorem toList_inj' {a b:ByteArray}:a.toList=b.toList↔a=b:=by
 constructor
 ·intro h;rw [ByteArray.toList_eq,ByteArray.toList_eq] at h;exact bs_ext h
 ·rintro rfl;rfl

/-- The document's terminals. -/
def TermsP (g:Gr):Prop:=g.terms.head?=some (⟨#[]⟩,0)∧(∀t∈g.terms.tail,TermOk g t)∧(g.terms.tail.map (·.1)).Nodup
open Classical in
noncomputable def termsB (g:Gr):Bool:=decide (TermsP g)
theorem termsB_iff {g:Gr}:termsB g=true↔TermsP g:=@decide_eq_true_iff _ (_)

theorem termsFit_ct {w:World} {B:Nat} {v:Value} {g:Gr} (h:rGram.atN w B v g) (hB:B≤w.heap.size):Ct Try.prog ref02_termsFit.id #[v] w fun r w'=>r = .bool (termsB g)∧Chg noB w w':=by
 refine ref02_termsFit.ct fun R hR=>?_
 obtain ⟨A1,c1,A2,c2,A3,c3,A4,c4,rfl,⟨m1,m2,m3,m4⟩,_,hc0,hg⟩:=box_all h hB
 have no:∀w',Chg noB w w'→¬TermsP g→R (.returned (.bool false)) w':=fun w' hc hn=>hR _ _ ⟨by rw [bool_no termsB_iff hn],hc⟩
 unfold ref02_termsFit.run
 simp -dsimp [go_sem]
 generalize w.alloc (.cells #[.slice A1 g.terms.length c1,.slice A2 g.nons.length c2,.slice A3 g.levels.length c3,.int .i64 g.start,.slice A4 g.prods.length c4] 27)=w1 at hc0 hg ⊢
 generalize w.heap.size=q at hg ⊢
 have z1:=hg w1 (Chg.refl _ _)
 refine SPL_intro (fun q1=>?_) (fun q1=>?_) <;> simp at q1
 ·simp -dsimp [go_sem]
  exact no _ hc0 fun hs=>by have:=hs.1;rw [q1] at this;cases this
 have q1':0<g.terms.length:=List.length_pos_iff.2 q1
 obtain ⟨b1,o1,rfl,hb1,d1,d2,_,_⟩:=terms_at z1.r1 q1'
 simp at d1 d2
 have hh:g.terms.head?=some g.terms[0]:=by rw [List.head?_eq_getElem?,List.getElem?_eq_getElem q1']
 simp -dsimp [go_sem,z1.k,q1',d1,d2]
 refine SPL_intro (fun q2=>?_) (fun q2=>?_) <;> simp at q2
 ·simp -dsimp [go_sem]
  refine no _ hc0 fun hs=>q2 ?_
  have:=hs.1;rw [hh] at this;injection this with this;rw [this,ByteArray.toList_eq]
 simp -dsimp [go_sem,z1.k,q1',d1,d2]
 refine SPL_intro (fun q3=>?_) (fun q3=>?_) <;> simp at q3
 ·refine no _ hc0 fun hs=>q3 ?_
  have:=hs.1;rw [hh] at this;injection this with this;rw [this]
 have ht0:g.terms.head?=some (⟨#[]⟩,0):=by
  rw [hh];congr 1
  exact Prod.ext (bs_ext (by rw [←ByteArray.toList_eq];exact q2)) q3
 obtain ⟨t0,tl,hE⟩:∃t tl,g.terms=t::tl:=by
  cases e:g.terms with
  | nil=>exact absurd e q1
  | cons t r=>exact ⟨t,r,rfl⟩
 have hlen:g.terms.length=tl.length+1:=by rw [hE];rfl
 have htl:g.terms.tail=tl:=by rw [hE];rfl
 have hel:∀i (hi:i<tl.length),g.terms[i+1]'(by omega)=tl[i]:=fun i hi=>by simp [hE]
 simp -dsimp [go_sem]
 refine ref02_termsFit.l7_intro _ _ _ _ (fun y w'=>∃j k:Nat,y = .int .i64 j∧j=k+1∧k≤tl.length∧Chg noB w1 w'∧(∀t∈tl.take k,TermOk g t)∧((tl.take k).map (·.1)).Nodup) (fun y _=>tl.length+1-iv y) ⟨1,0,rfl,rfl,by omega,Chg.refl _ _,by simp,by simp⟩ ?_
 rintro _ w2 ⟨j,k,rfl,hj,hk,hcw,hall,hnd⟩ C hC
 have z2:=hg w2 hcw
 simp -dsimp [go_sem,z2.k]
 refine SPL_intro (fun p1=>?_) (fun p1=>?_) <;> simp at p1
 ·have hk1:k<tl.length:=by omega
  obtain ⟨b2,o2,e2,hb2,f1,f2,f3,f4⟩:=terms_at z2.r1 p1
  injection e2 with e2;injection e2 with e2 e3;subst e2 e3
  have hej:g.terms[j]=tl[k]:=by subst hj;exact hel k hk1
  rw [hej] at f1 f2 f3 f4
  have bad:¬TermOk g tl[k]→¬TermsP g:=fun hn hs=>hn (hs.2.1 _ (by rw [htl];exact List.getElem_mem hk1))
  simp -dsimp [go_sem,z2.k,p1,f1]
  refine CALL_of (ref02_IsTerm_ct f3 w2) ?_
  rintro _ _ ⟨rfl,rfl⟩
  have hcd:=hcw.drew
  have zd:=hg _ hcd
  obtain ⟨b3,o3,e3,hb3,f1',f2',_,_⟩:=terms_at zd.r1 p1
  injection e3 with e3;injection e3 with e3 e4;subst e3 e4
  rw [hej] at f1' f2'
  cases hT:tmB tl[k].1 with
  | false =>
   simp -dsimp [go_sem]
   exact no _ (hc0.trans hcd) (bad fun hs=>by rw [tmB_iff.2 hs.name] at hT;cases hT)
  | true =>
   simp -dsimp [go_sem,zd.k,p1,f1',f2']
   refine SPL_intro (fun p2=>?_) (fun p2=>?_) <;> simp at p2
   ·simp -dsimp [go_sem]
    exact no _ (hc0.trans hcd) (bad fun hs=>by have:=hs.lo;omega)
   simp -dsimp [go_sem,zd.k,p1,f1',f2']
   refine SPL_intro (fun p3=>?_) (fun p3=>?_) <;> simp at p3
   ·exact no _ (hc0.trans hcd) (bad fun hs=>by have:=hs.hi;omega)
   simp -dsimp [go_sem]
   refine ref02_termsFit.l16_intro _ _ _ _ _ _ (fun y w'=>∃i n:Nat,y = .int .i64 i∧i=n+1∧n≤k∧Chg noB w1 w'∧∀t∈tl.take n,t.1≠tl[k].1) (fun y _=>k+1-iv y) ⟨1,0,rfl,rfl,by omega,hcd,by simp⟩ ?_
   rintro _ w3 ⟨i,n,rfl,hi,hn,hc3,hne⟩ C' hC'
   simp -dsimp [go_sem]
   refine SPL_intro (fun p4=>?_) (fun p4=>?_) <;> simp at p4
   ·have hn1:n<tl.length:=by omega
    have hil:i<g.terms.length:=by omega
    have z3:=hg _ hc3.drew
    obtain ⟨b4,o4,e4,hb4,x1,_⟩:=terms_at z3.r1 p1
    injection e4 with e4;injection e4 with e4 e5;subst e4 e5
    obtain ⟨b5,o5,e5,hb5,y1,_⟩:=terms_at z3.r1 hil
    injection e5 with e5;injection e5 with e5 e6;subst e5 e6
    have hei:g.terms[i]=tl[n]:=by subst hi;exact hel n hn1
    rw [hej] at x1
    rw [hei] at y1
    have wi:IntKind.i64.wrap ((i:Int)+1)=(i:Int)+1:=IntWalk.i64_in _ (by unfold maxLen at m1;omega)
    simp -dsimp [go_sem,z3.k,p1,hil,x1,y1]
    refine SPL_intro (fun p5=>?_) (fun p5=>?_) <;> simp at p5
    ·refine no _ (hc0.trans hc3.drew) fun hs=>?_
     have:=List.pairwise_iff_getElem.1 hs.2.2 n k (by simp [htl];omega) (by simp [htl];omega) (by omega)
     simp [htl] at this
     exact this (toList_inj'.1 p5)
    ·simp -dsimp [go_sem,wi]
     refine hC' _ _ ⟨i+1,n+1,by simp,by omega,by omega,hc3.drew,fun t ht=>?_⟩ (by simp [iv];omega)
     rw [List.take_succ_eq_append_getElem hn1] at ht
     rcases List.mem_append.1 ht with ht | ht
     ·exact hne t ht
     ·rw [List.mem_singleton.1 ht]
      exact fun e=>p5 (by rw [e])
   ·have hnk:n=k:=by omega
    subst hnk
    have wj:IntKind.i64.wrap ((j:Int)+1)=(j:Int)+1:=IntWalk.i64_in _ (by unfold maxLen at m1;omega)
    simp -dsimp [go_sem,wj]
    have htk:tl.take (n+1)=tl.take n++[tl[n]]:=List.take_succ_eq_append_getElem hk1
    refine hC _ _ ⟨j+1,n+1,by simp,by omega,by omega,hc3,fun t ht=>?_,?_⟩ (by simp [iv];omega)
    ·rw [htk] at ht
     rcases List.mem_append.1 ht with ht | ht
     ·exact hall t ht
     ·rw [List.mem_singleton.1 ht];exact ⟨tmB_iff.1 hT,by omega,by omega⟩
    ·rw [htk,List.map_append]
     refine List.nodup_append.2 ⟨hnd,by simp,fun a ha b hb=>?_⟩
     obtain ⟨t,ht,rfl⟩:=List.mem_map.1 ha
     simp at hb
     subst hb
     exact hne t ht
 ·have hka:k=tl.length:=by omega
  subst hka
  rw [List.take_length] at hall hnd
  simp -dsimp [go_sem]
  refine hR _ _ ⟨?_,hc0.trans hcw⟩
  rw [termsB_iff.2 ⟨ht0,by rw [htl];exact hall,by rw [htl];exact hnd⟩]
end Go.Proofs.Ytmoepnfobnpdiaa

/-
  lr0.of: the productions of each nonterminal.
-/
namespace Go.Px.Cn
open Go.Px
def cN (n:Nat):List Value:=[.int .i64 n]
end Go.Px.Cn
namespace Go.Proofs.Ytmoepnfobnpdiaa
open Go.Px Go.Px.Scan Go.Px.Cn Go.RowKit
attribute [-go_sem] Builtin.append_ lr0_of.b3 lr0_of.b4 lr0_of.b7_1 lr0_of.b7
theorem mBy:MapTv Try.prog kInt 86 3 24 (.slice none 0 0) where
 tm:=Try.underlying86
 keyed:=Maps.int_keyed Try.underlying3
 key a ha:=mInt.key a ha
 zero w:=Try.zeroValue24 w
theorem mkBy (w:World):(Instr.makeMap 86 none).run Try.prog w = .ok (.map (some w.heap.size)) (w.alloc (.map #[] 0)):=by
 simp [Instr.makeMap,run_underlying Try.underlying86,go_sem]
theorem bMaker (a b c d:Option Addr) (m n o p e f g h:Nat) (x:Int) (q:Option Nat) (w:World):(Instr.build 88 #[(0,.agg #[.slice a m e,.slice b n f,.slice c o g,.int .i64 x,.slice d p h]),(1,.map q)]).run Try.prog w = .ok (.agg #[.slice a m e,.slice b n f,.slice c o g,.int .i64 x,.slice d p h,.map q]) w:=by simp [go_sem]
/-- The productions of each nonterminal, as far as they were gone through. -/
def byN (P:Prs) (k:Nat) (s:Int):List Nat:=(List.range k).filter fun p=>lft P p=s
theorem byN_succ (P:Prs) (k:Nat) (s:Int):byN P (k+1) s=if lft P k=s then byN P k s++[k] else byN P k s:=by
 unfold byN
 rw [List.range_succ,List.filter_append]
 by_cases h:lft P k=s <;> simp [h]
/-- A maker, in all worlds in which nothing of it has turned. -/
def MkR (W:World) (mb:Nat) (A4:Option Addr) (c4:Nat) (P:Prs):Prop:=(∀w,Chg noB W w→w.cell? ⟨mb,4,none⟩=some (.slice A4 P.length c4)∧(rSlice rPr).at1 w W.heap.size (.slice A4 P.length c4) P) ∧
 ∃vm,(∀w,Chg noB W w→w.cell? ⟨mb,5,none⟩=some vm)∧∀s,inI64 s→∃A c,∀w,Chg noB W w→(Instr.lookup 86 vm (.int .i64 s) false).run Try.prog w = .ok (.slice A (byP P s).length c) w∧(0<(byP P s).length→∃g,A=some ⟨g,0,none⟩∧∀(i p:Nat),(byP P s)[i]?=some p→w.cell? ⟨g,i,none⟩=some (.int .i64 p))
theorem of_ct {w:World} {B:Nat} {vg:Value} {g:Gr} (hg:rGram.atN w B vg g) (hB:B≤w.heap.size) (hl:g.prods.length≤97) (hli:∀p∈g.prods,inI64 p.1) :
  Ct Try.prog lr0_of.id #[vg] w fun v w'=>∃mb A4 c4,v = .pointer (some ⟨mb,0,none⟩)∧Chg noB w w'∧MkR w' mb A4 c4 g.prods:=by
 refine lr0_of.ct fun R hR=>?_
 obtain ⟨A1,c1,A2,c2,A3,c3,A4,c4,rfl,⟨m1,m2,m3,m4⟩,hst,hc0,hgr⟩:=box_all hg hB
 have hr4:(rSlice rPr).at1 w B (.slice A4 g.prods.length c4) g.prods:=by obtain ⟨_,_,_,_,_,_,_,_,e,_,_,_,_,h5,_⟩:=(rGram_open hg).ex;injection e with e;injection e with e;simp at e;rw [e.2.2.2.1,e.2.2.2.2];exact h5
 have s1:=(St.refl noB w).alloc #[.slice A1 g.terms.length c1,.slice A2 g.nons.length c2,.slice A3 g.levels.length c3,.int .i64 g.start,.slice A4 g.prods.length c4] 27
 unfold lr0_of.run
 simp -dsimp [go_sem]
 generalize w.alloc (.cells #[.slice A1 g.terms.length c1,.slice A2 g.nons.length c2,.slice A3 g.levels.length c3,.int .i64 g.start,.slice A4 g.prods.length c4] 27)=w1 at s1 hc0 hgr ⊢
 generalize w.heap.size=q at s1 hgr ⊢
 have s2:=((s1.mapV Try.prog kInt 3).alloc #[.slice A1 g.terms.length c1,.slice A2 g.nons.length c2,.slice A3 g.levels.length c3,.int .i64 g.start,.slice A4 g.prods.length c4,.map (some w1.heap.size)] 88).push (c:=Ch.all (rowsE 3 1 cN ([]:List (Ent Int Nat)))) ⟨fun _=>0,fun i h=>absurd rfl h,fun k c h=>by simp [rowsE] at h⟩
 simp -dsimp [go_sem,mkBy,↓bMaker]
 have e1:(w1.alloc (.map #[] 0)).heap.size=w1.heap.size+1:=by simp
 rw [e1] at s2
 generalize (w1.alloc (.map #[] 0)).alloc (.cells #[.slice A1 g.terms.length c1,.slice A2 g.nons.length c2,.slice A3 g.levels.length c3,.int .i64 g.start,.slice A4 g.prods.length c4,.map (some w1.heap.size)] 88)=w2 at s2 ⊢
 generalize w1.heap.size+1=mb at s2 ⊢
 obtain ⟨vm,hvm⟩:∃vm,Value.map (some w1.heap.size)=vm:=⟨_,rfl⟩
 rw [hvm] at s2
 clear s1 hc0
 have y2:=s2.box 0 rfl
 simp [boxAt] at y2
 let LL:Nat→List (Ent Int Nat)→List Ch:=fun n E =>
  [boxC q 27 [.slice A1 g.terms.length c1,.slice A2 g.nons.length c2,.slice A3 g.levels.length c3,.int .i64 g.start,.slice A4 g.prods.length c4],mapVC Try.prog kInt 3 vm n (fE E),
    boxC mb 88 [.slice A1 g.terms.length c1,.slice A2 g.nons.length c2,.slice A3 g.levels.length c3,.int .i64 g.start,.slice A4 g.prods.length c4,vm],Ch.all (rowsE 3 1 cN E)]
 unfold lr0_of.b4
 simp -dsimp [go_sem,y2]
 refine lr0_of.l6_intro _ _ _ _ _ _ (fun y w'=>∃(k n:Nat) (E:List (Ent Int Nat)),y = .int .i64 k∧k≤g.prods.length∧n≤k∧(E.map (·.1)).Nodup∧(∀s,vE E s=byN g.prods k s)∧St noB w w' (LL n E)) (fun y _=>g.prods.length-iv y)
  ⟨0,0,[],rfl,by omega,by omega,by simp,fun s=>by simp [vE,byN],s2⟩ ?_
 rintro _ w3 ⟨k,n,E,rfl,hk,hnk,hE,hv,s3⟩ C hC
 have wk:IntKind.i64.wrap ((k:Int)+1)=(k:Int)+1:=IntWalk.i64_in _ (by omega)
 unfold lr0_of.b7
 simp -dsimp [go_sem]
 refine SPL_intro (fun p1=>?_) (fun p1=>?_) <;> simp at p1
 ·obtain ⟨bp,op,vr,eA,hbp,x1,x2,x3,hr,z1,z2⟩:=prods_at (Rep.below hr4 (s3.chg.below hB fun _ _=>id)) p1
  subst eA
  obtain ⟨Ar,cr,rfl,hrl,hrm,_⟩:=slice_form hr
  obtain ⟨lf,hlf⟩:∃lf,g.prods[k].1=lf:=⟨_,rfl⟩
  rw [hlf] at x1 z1
  have s4:=s3.alloc #[.int .i64 lf,.slice Ar g.prods[k].2.1.length cr,.int .i64 g.prods[k].2.2] 67
  unfold lr0_of.b7_1
  have y4:=s4.box 2 rfl
  have z4:=s4.box 4 rfl
  simp only [boxAt] at y4 z4
  have y45:=y4.1.2.2.2.2.2.1
  have z40:=z4.1.1
  simp -dsimp [go_sem,p1,x1,x2,x3,y45,z40]
  have s4d:=s4.old ((Chg.refl noB _).drew)
  clear y4 z4 y45 z40 s4
  generalize (w3.alloc (.cells #[.int .i64 lf,.slice Ar g.prods[k].2.1.length cr,.int .i64 g.prods[k].2.2] 67)).drew=w4 at s4d ⊢
  generalize w3.heap.size=pb at s4d ⊢
  have hl4:(Instr.lookup 86 vm (.int .i64 lf) false).run Try.prog w4=_:=s4d.mapVGet mBy 1 rfl lf z1
  have s5:=s4d.lit 3 1 1 #[.int .i64 k] (by simp [maxLen]) rfl
  have hl5:(Instr.lookup 86 vm (.int .i64 lf) false).run Try.prog (w4.alloc (.cells #[.int .i64 k] 3))=_:=s5.mapVGet mBy 1 rfl lf z1
  have y5:=(s5.box 2 rfl).1.2.2.2.2.2.1
  have z5:=(s5.box 4 rfl).1.1
  have hnew:=alloc_cells w4 [.int .i64 k] 3 rfl
  simp -dsimp [go_sem,hl4,hl5,y5,z5]
  clear hl4 hl5 y5 z5
  have s5':=s4d.old ((Chg.refl noB w4).alloc (.cells #[.int .i64 k] 3))
  generalize w4.alloc (.cells #[.int .i64 k] 3)=w5 at s5' hnew ⊢
  clear s5
  have hvl:(vE E lf).length≤97:=by
   rw [hv lf]
   have:=List.length_filter_le (fun p=>decide (lft g.prods p=lf)) (List.range k)
   rw [List.length_range] at this
   unfold byN;omega
  refine s5'.grpAppend 3 rfl hE (fun _=>rfl) (fun x u hu=>by simp [cN] at hu;subst hu;rfl) uInts iInt rfl (by decide) lf k hnew (by unfold maxLen;omega) (by unfold maxBytes;omega) ?_
  intro E' v' w6 h1 h2 h3 h4 h5 h6 h7 s6
  have y6:=(s6.box 2 rfl).1.2.2.2.2.2.1
  have z6:=(s6.box 4 rfl).1.1
  obtain ⟨w7,hrun,s7⟩:=s6.mapVPut mBy 1 rfl lf z1 (by unfold maxLen;omega) v' (fE E') h2 h3
  have hrun:(Instr.mapUpdate 86 vm (.int .i64 lf) v').run Try.prog w6 = .ok () w7:=hrun
  simp -dsimp [go_sem,y6,z6,hrun,wk]
  refine hC _ _ ⟨k+1,n+1,E',by simp,by omega,by omega,h1,fun s=>?_,s7.take 4⟩ (by simp [iv];omega)
  have hlk:lft g.prods k=lf:=by unfold lft;rw [List.getD_eq_getElem?_getD,List.getElem?_eq_getElem p1];exact hlf
  rw [byN_succ,hlk]
  by_cases e:s=lf
  ·subst e;rw [if_pos rfl,h4,hv]
  ·rw [if_neg (Ne.symm e),h5 s e,hv]
 ·have hke:k=g.prods.length:=by omega
  subst hke
  unfold lr0_of.b3
  have hup:∀w',Chg noB w3 w'→St noB w w' (LL n E):=fun w' hc=>s3.old hc
  refine hR _ _ ⟨mb,A4,c4,rfl,s3.chg,fun w' hc=>⟨((hup w' hc).box 2 rfl).1.2.2.2.2.1,Rep.up (Rep.below hr4 ((hup w' hc).chg.below hB fun _ _=>id)) (by have:=s3.chg.size;omega)⟩,vm,fun w' hc=>((hup w' hc).box 2 rfl).1.2.2.2.2.2.1,fun s hs=>?_⟩
  have hl:∀w',Chg noB w3 w'→(Instr.lookup 86 vm (.int .i64 s) false).run Try.prog w' = .ok ((fE E s).getD (.slice none 0 0)) w':=fun w' hc=>(hup w' hc).mapVGet mBy 1 rfl s hs
  have hby:vE E s=byP g.prods s:=hv s
  cases hf:E.find? (fun x=>decide (x.1=s)) with
  | none =>
   have e1:fE E s=none:=by unfold fE;rw [hf];rfl
   have e2:byP g.prods s=[]:=by rw [←hby];unfold vE;rw [hf];rfl
   rw [e1] at hl
   exact ⟨none,0,fun w' hc=>⟨by rw [e2];exact hl w' hc,fun h=>by rw [e2] at h;exact absurd h (Nat.lt_irrefl 0)⟩⟩
  | some x =>
   obtain ⟨j,hj,hxs⟩:=find_idx hf
   have e1:fE E s=some (valE x):=by unfold fE;rw [hf];rfl
   have e2:byP g.prods s=x.2.2.2:=by rw [←hby];unfold vE;rw [hf];rfl
   rw [e1] at hl
   refine ⟨x.2.1,x.2.2.1,fun w' hc=>⟨by rw [e2];exact hl w' hc,fun h=>?_⟩⟩
   rw [e2] at h ⊢
   obtain ⟨F,s6,_⟩:=(hup w' hc).inAll' 3 rfl
   have hkr:(rowsE 3 1 cN E)[j]?=some (rowC 3 1 x.2.1 x.2.2.2.length x.2.2.1 (x.2.2.2.flatMap cN)):=by unfold rowsE;rw [List.getElem?_map,hj];rfl
   obtain ⟨F6,ho,_⟩:=s6.get hkr
   obtain ⟨gb,eb,_⟩:=row_elem ho (fun _ _=>rfl) (by decide) (i:=0) (x:=x.2.2.2[0]) (List.getElem?_eq_getElem h)
   refine ⟨gb,eb,fun i p hi=>?_⟩
   obtain ⟨gb',eb',hcell,_⟩:=row_elem ho (fun _ _=>rfl) (by decide) hi
   rw [eb] at eb';injection eb' with eb';injection eb' with eb';subst eb'
   have:=hcell 0 _ rfl
   simpa using this
end Go.Proofs.Ytmoepnfobnpdiaa

/-
  lr0: behind, closure.
-/
namespace Go.Px.Cn
open Go.Px
/-- An item in memory. -/
def rIt:Rep It where
 size:=2
 bytes:=16
 ok _ _ cs x:=cs=itV x
 len h:=by rw [h];rfl
 keep h _ _:=h
 one h u hu:=by rw [h] at hu;simp [itV] at hu;rcases hu with rfl | rfl <;> rfl
def aftI (P:Prs) (x:It):Int:=(aft P x).getD (-1)
/-- Symbols of rights. -/
structure SymOk (P:Prs):Prop where
 pos:∀p s,s∈rgt P p→0<s∧inI64 s
 no0:∀p,lft P 0∉rgt P p
theorem aft_mem {P:Prs} {x:It} {s:Int} (h:aft P x=some s):s∈rgt P x.1:=List.mem_of_getElem? h
theorem its_at {w:World} {B n c:Nat} {A:Option Addr} {l:List It} (h:(rSlice rIt).at1 w B (.slice A n c) l) {i:Nat} (hi:i<l.length):∃b o,A=some ⟨b,o,none⟩∧b<B∧w.cell? ⟨b,o+i*2,none⟩=some (.int .i64 l[i].1)∧w.cell? ⟨b,o+i*2+1,none⟩=some (.int .i64 l[i].2):=by
 obtain ⟨b,o,ys,hA,hb,hy,hc⟩:=slice_at h hi
 have hy:ys=itV l[i]:=hy
 subst hy
 exact ⟨b,o,hA,hb,hc 0 _ rfl,hc 1 _ rfl⟩
end Go.Px.Cn
namespace Go.Proofs.Ytmoepnfobnpdiaa
open Go.Px Go.Px.Scan Go.Px.Cn Go.RowKit
attribute [-go_sem] Builtin.append_ lr0_maker_behind.b1_1 slices_Clone_api_Item_api_Item.b1_1
theorem uItems:Try.prog.underlying 39=some (.slice 57):=Try.underlying39
theorem iItem:(Try.prog.info? 57).map (fun i=>(i.zero,i.size,i.bytes))=some (some (.agg #[.int .i64 0,.int .i64 0]),2,16):=by kernel_rfl
theorem behind_ct {W w:World} {mb:Nat} {A4:Option Addr} {c4:Nat} {P:Prs} (hm:MkR W mb A4 c4 P) (hc:Chg noB W w) (x:It) (hx:x.1<P.length∧x.2≤(rgt P x.1).length) :
  Ct Try.prog lr0_maker_behind.id #[.pointer (some ⟨mb,0,none⟩),.agg #[.int .i64 x.1,.int .i64 x.2]] w fun v w'=>v = .int .i64 (aftI P x)∧Chg noB w w':=by
 refine lr0_maker_behind.ct fun R hR=>?_
 have s1:=(St.refl noB w).alloc #[.int .i64 x.1,.int .i64 x.2] 57
 have hc1:Chg noB W (w.alloc (.cells #[.int .i64 x.1,.int .i64 x.2] 57)):=hc.trans ((Chg.refl _ _).alloc _)
 obtain ⟨k4,hpr⟩:=hm.1 _ hc1
 obtain ⟨bp,op,vr,eA,hbp,x1,x2,x3,hr,_⟩:=prods_at hpr hx.1
 subst eA
 obtain ⟨Ar,cr,rfl,hrl,hrm,_⟩:=slice_form hr
 have y1:=(s1.box 0 rfl).1
 have y10:=y1.1
 unfold lr0_maker_behind.run
 obtain ⟨rt,er⟩:∃rt,(P[x.1]'hx.1).2.1=rt:=⟨_,rfl⟩
 have ert:rgt P x.1=rt:=by rw [←er];have h:=hx.1;simp [rgt,h]
 rw [er] at x2 hr hrl
 rw [ert] at hx
 have hlt:=hx.1
 simp -dsimp [go_sem,k4,y10,hlt,x2]
 have s1d:=s1.old ((Chg.refl noB _).drew)
 have hc1d:=hc1.trans ((Chg.refl noB _).drew)
 have hrd:=Rep.below hr ((Chg.refl noB (w.alloc (.cells #[.int .i64 x.1,.int .i64 x.2] 57))).drew.below hc1.size fun _ _=>id)
 clear s1 hc1 k4 hpr x1 x2 x3 hr y1 y10
 generalize (w.alloc (.cells #[.int .i64 x.1,.int .i64 x.2] 57)).drew=w1 at s1d hc1d hrd ⊢
 have y1:=(s1d.box 0 rfl).1.2.1
 refine SPL_intro (fun p1=>?_) (fun p1=>?_)
 ·have p1':x.2=rt.length:=by
   have:(x.2:Int)=(rt.length:Int):=by simpa using p1
   omega
  refine hR _ _ ⟨?_,s1d.chg⟩
  unfold aftI aft
  rw [ert,p1',List.getElem?_eq_none (Nat.le_refl _)];rfl
 ·have p1':x.2<rt.length:=by
   have:(x.2:Int)≠(rt.length:Int):=by simpa using p1
   omega
  obtain ⟨br,or',eAr,hbr,cx,hxin⟩:=Go.Px.ints_at hrd p1'
  subst eAr
  unfold lr0_maker_behind.b1_1
  simp -dsimp [go_sem,y1,p1',cx]
  refine hR _ _ ⟨?_,s1d.chg⟩
  unfold aftI aft
  rw [ert,List.getElem?_eq_getElem p1'];rfl
theorem CloneI_ct {w:World} {B:Nat} {A:Option Addr} {c:Nat} {l:List It} (h:(rSlice rIt).at1 w B (.slice A l.length c) l) (hB:B≤w.heap.size) (hl:l.length≤1000000) (hne:l≠[]) :
  Ct Try.prog slices_Clone_api_Item_api_Item.id #[.slice A l.length c] w fun v w'=>∃g c',v = .slice (some ⟨g,0,none⟩) l.length c'∧St noB w w' [rowC 57 2 (some ⟨g,0,none⟩) l.length c' (l.flatMap itV)]:=by
 refine slices_Clone_api_Item_api_Item.ct fun R hR=>?_
 have hpos:0<l.length:=List.length_pos_iff.2 hne
 obtain ⟨b,o,eA,_⟩:=its_at h hpos
 have s1:=(St.refl noB w).lit 57 2 0 #[] (by simp) (by simp)
 unfold slices_Clone_api_Item_api_Item.run
 simp -dsimp [go_sem,eA]
 rw [slice_nil_eq 39 uItems]
 simp -dsimp [go_sem]
 unfold slices_Clone_api_Item_api_Item.b1_1
 simp -dsimp [go_sem]
 rw [←eA]
 refine s1.appendRd (r:=rIt) (enc:=itV) 0 rfl uItems iItem rfl (by decide) (Rep.below h (s1.chg.below hB fun _ _=>id)) (fun h _=>h) (fun x _ u hu=>by simp [itV] at hu;rcases hu with rfl | rfl <;> rfl) (fun _ _=>rfl) (by unfold maxLen;omega) (by unfold maxBytes;omega) ?_
 intro a' c' w' s2
 rw [Nat.zero_add] at s2 ⊢
 obtain ⟨F,ho,_⟩:=s2.get (k:=0) rfl
 obtain ⟨g,rfl,_⟩:=row_elem ho (fun _ _=>rfl) (by decide) (i:=0) (x:=l[0]) (List.getElem?_eq_getElem hpos)
 exact hR _ _ ⟨g,c',rfl,s2⟩
end Go.Proofs.Ytmoepnfobnpdiaa

/-
  lr0: closure.
-/
namespace Go.Px.Cn
open Go.Px
/-- Each item is there once. -/
theorem CloI.nodup {P:Prs} {items l:List It} {S:List Int} {i:Nat} (h:CloI P items l S i) (hnd:items.Nodup) (h0:∀x∈items,x.2=0→x=(0,0)) (hS:lft P 0∉S):l.Nodup:=by
 rw [h.eq,List.nodup_append]
 refine ⟨hnd,?_,fun a ha b hb=>?_⟩
 ·have e:S.flatMap (byL P)=(S.flatMap (byP P)).map fun p=>((p,0):It):=by
   rw [List.map_flatMap];rfl
  rw [e,List.Nodup,List.pairwise_map]
  exact (byP_nodup P h.nd).imp fun {a b} hab e=>hab (by injection e)
 ·rintro rfl
  obtain ⟨s,hs,hb⟩:=List.mem_flatMap.1 hb
  obtain ⟨h1,h2,h3⟩:=mem_byL.1 hb
  have:=h0 a ha h3
  subst this
  exact hS (by rw [h2];exact hs)
end Go.Px.Cn
namespace Go.Proofs.Ytmoepnfobnpdiaa
open Go.Px Go.Px.Scan Go.Px.Cn Go.RowKit
attribute [-go_sem] Builtin.append_ lr0_maker_closure.b3 lr0_maker_closure.b9 lr0_maker_closure.b16_1 lr0_maker_closure.b16 lr0_maker_closure.b13 lr0_maker_closure.b18 lr0_maker_closure.b17_1 lr0_maker_closure.b17 lr0_maker_closure.b11 lr0_maker_closure.b7 lr0_maker_closure.b4
theorem mHad:MapTv Try.prog kInt 110 3 3 (.int .i64 0) where
 tm:=Try.underlying110
 keyed:=Maps.int_keyed Try.underlying3
 key a ha:=mInt.key a ha
 zero w:=Try.zeroValue3 w
theorem bItem (x:Int) (w:World):(Instr.build 57 #[(0,.int .i64 x)]).run Try.prog w = .ok (.agg #[.int .i64 x,.int .i64 0]) w:=by simp [go_sem]
theorem bItem2 (x y:Int) (w:World):(Instr.build 57 #[(0,.int .i64 x),(1,.int .i64 y)]).run Try.prog w = .ok (.agg #[.int .i64 x,.int .i64 y]) w:=by simp [go_sem]
attribute [go_sem ↓] bItem bItem2
def hadF (S:List Int) (s:Int):Option Value:=if s∈S then some (.int .i64 1) else none
theorem clo_add {W w w1:World} {mb:Nat} {A4:Option Addr} {c4:Nat} {P:Prs} (hm:MkR W mb A4 c4 P) (hW:Chg noB W w) {vh:Value} {n g c i:Nat} {l:List It} {S:List Int} {s:Int} (hs:inI64 s) (hsS:s∉S) (hn:n≤1000000) (hl:l.length+P.length≤2000000) (hP:P.length≤97)
  {R:Ending→World→Prop} {C6:Value→Value→World→Prop}
  (s1:St noB w w1 [mapVC Try.prog kInt 3 vh n (hadF S),rowC 57 2 (some ⟨g,0,none⟩) l.length c (l.flatMap itV)])
  (hgo:∀g' c' w',St noB w w' [mapVC Try.prog kInt 3 vh (n+1) (hadF (S++[s])),rowC 57 2 (some ⟨g',0,none⟩) (l++byL P s).length c' ((l++byL P s).flatMap itV)]→lr0_maker_closure.b9 R C6 (.slice (some ⟨g',0,none⟩) (l++byL P s).length c') (.int .i64 i) w') :
  lr0_maker_closure.b13 R C6 (.pointer (some ⟨mb,0,none⟩)) (.slice (some ⟨g,0,none⟩) l.length c) vh (.int .i64 i) (.int .i64 s) w1:=by
 have hl1:(Instr.lookup 110 vh (.int .i64 s) false).run Try.prog w1=_:=s1.mapVGet mHad 0 rfl s hs
 have ef:hadF S s=none:=by unfold hadF;rw [if_neg hsS]
 rw [ef] at hl1
 simp only [Option.getD_none] at hl1
 have ef2:hadF (S++[s]) s=some (.int .i64 1):=by unfold hadF;rw [if_pos (by simp)]
 have ef3:∀c,c≠s→hadF (S++[s]) c=hadF S c:=fun c hc=>by
  unfold hadF
  by_cases h:c∈S
  ·rw [if_pos (by simp [h]),if_pos h]
  ·rw [if_neg (by simp [h,hc]),if_neg h]
 obtain ⟨w2,hrun,s2⟩:=s1.mapVPut mHad 0 rfl s hs (by unfold maxLen;omega) (.int .i64 1) (hadF (S++[s])) ef2 ef3
 have hrun:(Instr.mapUpdate 110 vh (.int .i64 s) (.int .i64 1)).run Try.prog w1 = .ok () w2:=hrun
 have w01:IntKind.i64.wrap (0+1)=1:=by decide
 obtain ⟨_,vm,hk5,hlk⟩:=hm
 obtain ⟨A,cA,hlA⟩:=hlk s hs
 have k5:=hk5 w2 (hW.trans s2.chg)
 obtain ⟨hl2,_⟩:=hlA w2 (hW.trans s2.chg)
 unfold lr0_maker_closure.b13
 simp -dsimp [go_sem,hl1,hrun,k5,hl2]
 obtain ⟨ps,hps⟩:∃ps,byP P s=ps:=⟨_,rfl⟩
 have hbl:byL P s=ps.map fun p=>(p,0):=by unfold byL;rw [hps]
 have hpl:ps.length≤P.length:=by
  rw [←hps]
  have:=List.length_filter_le (fun p=>decide (lft P p=s)) (List.range P.length)
  rw [List.length_range] at this
  unfold byP;exact this
 rw [hps] at hlA ⊢
 rw [hbl] at hgo
 refine lr0_maker_closure.l15_intro _ _ _ _ _ _ _ _ (fun y z w'=>∃(k g' c':Nat),y = .slice (some ⟨g',0,none⟩) (l++(ps.take k).map fun p=>((p,0):It)).length c'∧z = .int .i64 k∧k≤ps.length∧St noB w w' [mapVC Try.prog kInt 3 vh (n+1) (hadF (S++[s])),rowC 57 2 (some ⟨g',0,none⟩) (l++(ps.take k).map fun p=>((p,0):It)).length c' ((l++(ps.take k).map fun p=>((p,0):It)).flatMap itV)]) (fun _ z _=>ps.length-iv z)
  ⟨0,g,c,by simp,rfl,by omega,by simpa using s2⟩ ?_
 rintro _ _ w3 ⟨k,g',c',rfl,rfl,hk,s3⟩ C hC
 have wk:IntKind.i64.wrap ((k:Int)+1)=(k:Int)+1:=IntWalk.i64_in _ (by omega)
 unfold lr0_maker_closure.b16
 simp -dsimp [go_sem]
 refine SPL_intro (fun p1=>?_) (fun p1=>?_) <;> simp at p1
 ·obtain ⟨l2,hl2'⟩:∃l2,l++(ps.take k).map (fun p=>((p,0):It))=l2:=⟨_,rfl⟩
  have hl2l:l2.length≤l.length+k:=by rw [←hl2'];simp;omega
  have et:l++(ps.take (k+1)).map (fun p=>((p,0):It))=l2++[(ps[k],0)]:=by
   rw [List.take_succ_eq_append_getElem p1,List.map_append,←List.append_assoc,hl2'];rfl
  rw [hl2'] at s3 ⊢
  obtain ⟨_,hcells⟩:=hlA w3 (hW.trans s3.chg)
  obtain ⟨gp,rfl,hc'⟩:=hcells (by omega)
  have cpk:=hc' k ps[k] (List.getElem?_eq_getElem p1)
  unfold lr0_maker_closure.b16_1
  simp -dsimp [go_sem,p1,cpk]
  refine s3.append1 1 rfl uItems iItem rfl (by decide) (news:=[.int .i64 ps[k],.int .i64 0]) rfl (by simp [Value.oneCell']) (by unfold maxLen;omega) (by unfold maxBytes;omega) ?_
  intro g2 cap w4 s4
  simp -dsimp [go_sem,wk]
  refine hC _ _ _ ⟨k+1,g2,cap,?_,by simp,by omega,?_⟩ (by simp [iv];omega)
  ·rw [et];simp
  ·rw [et,List.length_append,List.flatMap_append]
   exact s4
 ·have hke:k=ps.length:=by omega
  subst hke
  rw [List.take_length] at s3 ⊢
  exact hgo g' c' w3 s3
theorem closure_ct {W w:World} {mb:Nat} {A4:Option Addr} {c4:Nat} {P:Prs} (hm:MkR W mb A4 c4 P) (hW:Chg noB W w) (hP:P.length≤97) (hsy:SymOk P) {B:Nat} {A:Option Addr} {c:Nat} {items:List It} (h:(rSlice rIt).at1 w B (.slice A items.length c) items) (hB:B≤w.heap.size)
  (hl:items.length≤500000) (hne:items≠[]) (hv:Val P items) (hnd:items.Nodup) (h0:∀x∈items,x.2=0→x=(0,0)) :
  Ct Try.prog lr0_maker_closure.id #[.pointer (some ⟨mb,0,none⟩),.slice A items.length c] w fun v w'=>∃(a:Addr) (r:List It),v = .slice (some a) r.length r.length∧r.Pairwise itLt∧(∀x,x∈r↔Cl0 P (·∈items) x)∧r.length≤items.length+P.length∧St noB w w' [qC 2 a r.length r.length (r.flatMap itV)]:=by
 refine lr0_maker_closure.ct fun R hR=>?_
 unfold lr0_maker_closure.run
 simp -dsimp [go_sem]
 refine CALL_of (CloneI_ct h hB (by omega) hne) ?_
 rintro _ w1 ⟨g,c',rfl,s1⟩
 have s2:=(s1.mapV Try.prog kInt 3)
 simp -dsimp [go_sem,mkInt]
 generalize w1.alloc (.map #[] 0)=w2 at s2 ⊢
 obtain ⟨vh,hvh⟩:∃vh,Value.map (some w1.heap.size)=vh:=⟨_,rfl⟩
 rw [hvh] at s2 ⊢
 have s2:=s2.pick (L':=[_,_]) [1,0] (by decide) rfl
 have e0:(fun _=>none:Int→Option Value)=hadF []:=by funext s;unfold hadF;simp
 rw [e0] at s2
 unfold lr0_maker_closure.b4
 refine lr0_maker_closure.l6_intro _ _ _ _ _ _ (fun y z w'=>∃(i n g c:Nat) (l:List It) (S:List Int),y = .slice (some ⟨g,0,none⟩) l.length c∧z = .int .i64 i∧i≤l.length∧n≤i∧CloI P items l S i∧(∀s∈S,∃p,s∈rgt P p)∧St noB w w' [mapVC Try.prog kInt 3 vh n (hadF S),rowC 57 2 (some ⟨g,0,none⟩) l.length c (l.flatMap itV)]) (fun _ z _=>items.length+P.length+1-iv z)
  ⟨0,0,g,c',items,[],rfl,rfl,by omega,by omega,CloI.start P items,by simp,s2⟩ ?_
 rintro _ _ w3 ⟨i,n,g,c,l,S,rfl,rfl,hi,hn,hI,hS,s3⟩ C hC
 have hll:=hI.len
 have wi:IntKind.i64.wrap ((i:Int)+1)=(i:Int)+1:=IntWalk.i64_in _ (by omega)
 unfold lr0_maker_closure.b7
 simp -dsimp [go_sem]
 refine SPL_intro (fun p1=>?_) (fun p1=>?_) <;> simp at p1
 ·have hx:l[i]?=some l[i]:=List.getElem?_eq_getElem p1
  obtain ⟨x,hxe⟩:∃x,l[i]=x:=⟨_,rfl⟩
  rw [hxe] at hx
  have hxv:=(hI.sound x (List.mem_of_getElem? hx)).val hv
  obtain ⟨F,ho,_⟩:=s3.get (k:=1) rfl
  obtain ⟨gb,eb,hcell,_⟩:=row_elem ho (fun _ _=>rfl) (by decide) hx
  injection eb with eb;injection eb with eb;subst eb
  have x1:=hcell 0 _ rfl
  have x2:=hcell 1 _ rfl
  simp only [Nat.add_zero] at x1
  have hgo:∀w' n' g' c' l' S',i+1≤l'.length→n'≤i+1→CloI P items l' S' (i+1)→(∀s∈S',∃p,s∈rgt P p)→St noB w w' [mapVC Try.prog kInt 3 vh n' (hadF S'),rowC 57 2 (some ⟨g',0,none⟩) l'.length c' (l'.flatMap itV)]→lr0_maker_closure.b9 R C (.slice (some ⟨g',0,none⟩) l'.length c') (.int .i64 i) w':=by
   intro w' n' g' c' l' S' h1 h2 h3 h4 h5
   unfold lr0_maker_closure.b9
   simp -dsimp [go_sem,wi]
   exact hC _ _ _ ⟨i+1,n',g',c',l',S',rfl,by simp,h1,h2,h3,h4,h5⟩ (by simp [iv];omega)
  unfold lr0_maker_closure.b11
  simp -dsimp [go_sem,p1,x1,x2]
  refine CALL_of (behind_ct hm (hW.trans s3.chg) x hxv) ?_
  rintro _ w4 ⟨rfl,hc4⟩
  have s4:=s3.old hc4
  unfold lr0_maker_closure.b17
  simp -dsimp [go_sem]
  unfold lr0_maker_closure.b18
  cases ha:aft P x with
  | none =>
   have e:aftI P x = -1:=by unfold aftI;rw [ha];rfl
   rw [e]
   simp -dsimp [go_sem]
   exact hgo w4 n g c l S (by omega) (by omega) (hI.skip hx fun s hs=>by rw [ha] at hs;cases hs) hS s4
  | some s =>
   have e:aftI P x=s:=by unfold aftI;rw [ha];rfl
   have hsr:=hsy.pos _ _ (aft_mem ha)
   have hs0:¬s<0:=by omega
   rw [e]
   simp -dsimp [go_sem,hs0]
   unfold lr0_maker_closure.b17_1
   have hl4:(Instr.lookup 110 vh (.int .i64 s) false).run Try.prog w4=_:=s4.mapVGet mHad 0 rfl s hsr.2
   by_cases hsS:s∈S
   ·have ef:hadF S s=some (.int .i64 1):=by unfold hadF;rw [if_pos hsS]
    rw [ef] at hl4
    simp only [Option.getD_some] at hl4
    simp -dsimp [go_sem,hl4]
    unfold lr0_maker_closure.b18
    simp -dsimp [go_sem]
    exact hgo w4 n g c l S (by omega) (by omega) (hI.skip hx fun s' hs'=>by rw [ha] at hs';injection hs' with hs';subst hs';exact hsS) hS s4
   ·have ef:hadF S s=none:=by unfold hadF;rw [if_neg hsS]
    rw [ef] at hl4
    simp only [Option.getD_none] at hl4
    simp -dsimp [go_sem,hl4]
    unfold lr0_maker_closure.b18
    simp -dsimp [go_sem]
    refine clo_add hm hW hsr.2 hsS (by omega) (by omega) hP s4 fun g' c' w' h'=>?_
    refine hgo w' (n+1) g' c' _ _ (by rw [List.length_append];omega) (by omega) (hI.add hx ha hsS) (fun s' hs'=>?_) h'
    rcases List.mem_append.1 hs' with hs' | hs'
    ·exact hS s' hs'
    ·rw [List.mem_singleton] at hs';subst hs'
     exact ⟨_,aft_mem ha⟩
 ·have hie:i=l.length:=by omega
  subst hie
  have hnd':=hI.nodup hnd h0 fun hin=>by
   obtain ⟨p,hp⟩:=hS _ hin
   exact hsy.no0 p hp
  have s4:=s3.turn (k:=1) rfl (d:=qC 2 ⟨g,0,none⟩ l.length c (l.flatMap itV)) fun F ho=>row_q ho
  unfold lr0_maker_closure.b3
  refine CALL_of (laid_ct s4 (k:=1) rfl hnd' (by omega)) ?_
  rintro _ w5 ⟨rfl,l',hp,hsr,s5⟩
  have hlen:=hp.length_eq
  rw [←hlen] at s5 ⊢
  exact hR _ _ ⟨⟨g,0,none⟩,l',rfl,hsr,fun x=>(hp.mem_iff).trans (hI.fin x),by omega,s5.pick [1] (by simp) rfl⟩
end Go.Proofs.Ytmoepnfobnpdiaa

/-
  lr0: kernels.
-/
namespace Go.Px.Cn
open Go.Px
theorem kerL_snoc (P:Prs) (l:List It) (x:It) (s:Int):kerL P (l++[x]) s=if aft P x=some s then kerL P l s++[(x.1,x.2+1)] else kerL P l s:=by
 unfold kerL
 rw [List.filter_append,List.map_append]
 by_cases h:aft P x=some s <;> simp [h]
theorem kerL_len (P:Prs) (l:List It) (s:Int):(kerL P l s).length≤l.length:=by
 unfold kerL
 rw [List.length_map]
 exact List.length_filter_le _ _
end Go.Px.Cn
namespace Go.Proofs.Ytmoepnfobnpdiaa
open Go.Px Go.Px.Scan Go.Px.Cn Go.RowKit
attribute [-go_sem] Builtin.append_ lr0_maker_kernels.b3 lr0_maker_kernels.b8 lr0_maker_kernels.b7_1 lr0_maker_kernels.b7_2 lr0_maker_kernels.b7 lr0_maker_kernels.b4
theorem mKer:MapTv Try.prog kInt 58 3 39 (.slice none 0 0) where
 tm:=Try.underlying58
 keyed:=Maps.int_keyed Try.underlying3
 key a ha:=mInt.key a ha
 zero w:=Try.zeroValue39 w
theorem mkKer (w:World):(Instr.makeMap 58 none).run Try.prog w = .ok (.map (some w.heap.size)) (w.alloc (.map #[] 0)):=by
 simp [Instr.makeMap,run_underlying Try.underlying58,go_sem]
theorem kernels_ct {W w:World} {mb:Nat} {A4:Option Addr} {c4:Nat} {P:Prs} (hm:MkR W mb A4 c4 P) (hW:Chg noB W w) (hP:P.length≤97) (hsy:SymOk P) {B:Nat} {A:Option Addr} {c:Nat} {items:List It} (h:(rSlice rIt).at1 w B (.slice A items.length c) items) (hB:B≤w.heap.size)
  (hl:items.length≤300000) (hne:items≠[]) (hv:Val P items) (hnd:items.Nodup) (h0:∀x∈items,x.2=0→x=(0,0)) :
  Ct Try.prog lr0_maker_kernels.id #[.pointer (some ⟨mb,0,none⟩),.slice A items.length c] w fun v w'=>∃(n:Nat) (r:List It) (E:List (Ent Int It)),r.Pairwise itLt∧(∀x,x∈r↔Cl0 P (·∈items) x)∧r.length≤items.length+P.length∧(E.map (·.1)).Nodup∧(∀s,vE E s=kerL P r s)∧(∀s,s∈E.map (·.1)↔kerL P r s≠[])∧E.length≤r.length∧n≤r.length∧St noB w w' [mapVC Try.prog kInt 3 v n (fE E),Ch.all (rowsE 57 2 itV E)]:=by
 refine lr0_maker_kernels.ct fun R hR=>?_
 have s1:=(St.refl noB w).mapV Try.prog kInt 3
 unfold lr0_maker_kernels.run
 simp -dsimp [go_sem,mkKer]
 generalize w.alloc (.map #[] 0)=w1 at s1 ⊢
 obtain ⟨vm,hvm⟩:∃vm,Value.map (some w.heap.size)=vm:=⟨_,rfl⟩
 rw [hvm] at s1 ⊢
 have h1:=Rep.below h (s1.chg.below hB fun _ _=>id)
 unfold lr0_maker_kernels.b4
 refine CALL_of (closure_ct hm (hW.trans s1.chg) hP hsy h1 (by have:=s1.chg.size;omega) (by omega) hne hv hnd h0) ?_
 rintro _ w2 ⟨a,r,rfl,hsr,hr,hrl,s2⟩
 have s2:=s1.seq s2
 have hrv:Val P r:=fun x hx=>((hr x).1 hx).val hv
 have e0:(fun _=>none:Int→Option Value)=fE ([]:List (Ent Int It)):=by funext s;simp [fE]
 rw [e0] at s2
 have s3:=(s2.push (c:=Ch.all (rowsE 57 2 itV ([]:List (Ent Int It)))) ⟨fun _=>0,fun i h=>absurd rfl h,fun k c h=>by simp [rowsE] at h⟩).pick (L':=[_,_,_]) [0,2,1] (by decide) rfl
 obtain ⟨_,_,hcm,hsp,_⟩:=q_it s3 2 rfl
 obtain ⟨g,o,sp⟩:=a
 simp only at hsp
 subst hsp
 simp -dsimp [go_sem]
 refine lr0_maker_kernels.l6_intro _ _ _ _ _ _ _ (fun y w'=>∃(k n:Nat) (E:List (Ent Int It)),y = .int .i64 k∧k≤r.length∧n≤k∧(E.map (·.1)).Nodup∧(∀s,vE E s=kerL P (r.take k) s)∧(∀s,s∈E.map (·.1)↔kerL P (r.take k) s≠[])∧E.length≤k∧St noB w w' [mapVC Try.prog kInt 3 vm n (fE E),Ch.all (rowsE 57 2 itV E),qC 2 ⟨g,o,none⟩ r.length r.length (r.flatMap itV)]) (fun y _=>r.length-iv y)
  ⟨0,0,[],rfl,by omega,by omega,by simp,fun s=>by simp [vE,kerL],fun s=>by simp [kerL],by simp,s3⟩ ?_
 rintro _ w3 ⟨k,n,E,rfl,hk,hn,hE,hvE,hkE,hEl,s3⟩ C hC
 have wk:IntKind.i64.wrap ((k:Int)+1)=(k:Int)+1:=IntWalk.i64_in _ (by omega)
 unfold lr0_maker_kernels.b7
 simp -dsimp [go_sem]
 refine SPL_intro (fun p1=>?_) (fun p1=>?_) <;> simp at p1
 ·obtain ⟨x,hxe⟩:∃x,r[k]=x:=⟨_,rfl⟩
  have hx:r[k]?=some x:=by rw [←hxe];exact List.getElem?_eq_getElem p1
  have hxv:=hrv x (List.mem_of_getElem? hx)
  have et:r.take (k+1)=r.take k++[x]:=by rw [List.take_succ_eq_append_getElem p1,hxe]
  obtain ⟨_,_,_,_,hcells⟩:=q_it s3 2 rfl
  obtain ⟨x1,x2⟩:=hcells k x hx
  simp only at x1 x2
  have hgo:∀w' n' E',n'≤k+1→(E'.map (·.1)).Nodup→(∀s,vE E' s=kerL P (r.take (k+1)) s)→(∀s,s∈E'.map (·.1)↔kerL P (r.take (k+1)) s≠[])→E'.length≤k+1→St noB w w' [mapVC Try.prog kInt 3 vm n' (fE E'),Ch.all (rowsE 57 2 itV E'),qC 2 ⟨g,o,none⟩ r.length r.length (r.flatMap itV)]→lr0_maker_kernels.b8 R C (.int .i64 k) w':=by
   intro w' n' E' h1 h2 h3 h4 h5 h6
   unfold lr0_maker_kernels.b8
   simp -dsimp [go_sem,wk]
   exact hC _ _ ⟨k+1,n',E',by simp,by omega,h1,h2,h3,h4,h5,h6⟩ (by simp [iv];omega)
  have s4:=s3.alloc #[.int .i64 x.1,.int .i64 x.2] 57
  have y4:=(s4.box 3 rfl).1
  have y40:=y4.1
  have y41:=y4.2.1
  unfold lr0_maker_kernels.b7_2
  simp -dsimp [go_sem,p1,x1,x2,y40,y41]
  clear y40 y41 y4
  generalize w3.alloc (.cells #[.int .i64 x.1,.int .i64 x.2] 57)=w4 at s4 ⊢
  generalize w3.heap.size=q at s4 ⊢
  refine CALL_of (behind_ct hm (hW.trans s4.chg) x hxv) ?_
  rintro _ w5 ⟨rfl,hc5⟩
  have s5:=s4.old hc5
  cases ha:aft P x with
  | none =>
   have e:aftI P x = -1:=by unfold aftI;rw [ha];rfl
   rw [e]
   simp -dsimp [go_sem]
   refine hgo w5 n E (by omega) hE (fun s=>?_) (fun s=>?_) (by omega) (s5.take 3)
   ·rw [et,kerL_snoc,ha,if_neg (by simp),hvE]
   ·rw [et,kerL_snoc,ha,if_neg (by simp),hkE]
  | some s =>
   have e:aftI P x=s:=by unfold aftI;rw [ha];rfl
   have hsr':=hsy.pos _ _ (aft_mem ha)
   have hs0:0≤s:=by omega
   have y5:=(s5.box 3 rfl).1
   have y50:=y5.1
   have y51:=y5.2.1
   have wx:IntKind.i64.wrap ((x.2:Int)+1)=(x.2:Int)+1:=by
    have hxl:=(List.getElem?_eq_some_iff.1 ha).1
    obtain ⟨_,hpr⟩:=hm.1 w5 (hW.trans s5.chg)
    obtain ⟨_,_,_,_,_,_,_,_,hr',_⟩:=prods_at hpr hxv.1
    obtain ⟨_,_,_,h1',h2',_⟩:=slice_form hr'
    have ert:(rgt P x.1).length=(P[x.1]'hxv.1).2.1.length:=by have h:=hxv.1;simp [rgt,h]
    rw [ert] at hxl
    exact IntWalk.i64_in _ (by unfold maxLen at h2';omega)
   have hl5:(Instr.lookup 58 vm (.int .i64 s) false).run Try.prog w5=_:=s5.mapVGet mKer 0 rfl s hsr'.2
   rw [e]
   simp -dsimp [go_sem,hs0]
   unfold lr0_maker_kernels.b7_1
   simp -dsimp [go_sem,hl5,y50,y51,wx]
   have s6:=s5.old ((Chg.refl noB w5).alloc (.cells #[.int .i64 x.1,.int .i64 ((x.2:Int)+1)] 57))
   have hnew:=alloc_cells w5 [.int .i64 x.1,.int .i64 ((x.2:Int)+1)] 57 rfl
   generalize w5.alloc (.cells #[.int .i64 x.1,.int .i64 ((x.2:Int)+1)] 57)=w6 at s6 hnew ⊢
   have hvl:(vE E s).length≤r.length:=by
    rw [hvE]
    have:=kerL_len P (r.take k) s
    rw [List.length_take] at this;omega
   refine s6.grpAppend 1 rfl hE (fun _=>rfl) (fun x u hu=>by simp [itV] at hu;rcases hu with rfl | rfl <;> rfl) uItems iItem rfl (by decide) s (x.1,x.2+1) (by simpa [itV] using hnew) (by unfold maxLen;omega) (by unfold maxBytes;omega) ?_
   intro E' v' w7 g1 g2 g3 g4 g5 g6 g7 s7
   obtain ⟨w8,hrun,s8⟩:=s7.mapVPut mKer 0 rfl s hsr'.2 (by unfold maxLen;omega) v' (fE E') g2 g3
   have hrun:(Instr.mapUpdate 58 vm (.int .i64 s) v').run Try.prog w7 = .ok () w8:=hrun
   simp -dsimp [go_sem,hrun]
   have hkl:∀b,kerL P (r.take (k+1)) b=if b=s then kerL P (r.take k) s++[(x.1,x.2+1)] else kerL P (r.take k) b:=fun b=>by
    rw [et,kerL_snoc,ha]
    by_cases e:b=s
    ·subst e;rw [if_pos rfl,if_pos rfl]
    ·rw [if_neg (by simpa using Ne.symm e),if_neg e]
   refine hgo w8 (n+1) E' (by omega) g1 (fun b=>?_) (fun b=>?_) (by omega) (s8.take 3)
   ·rw [hkl]
    by_cases e:b=s
    ·subst e;rw [if_pos rfl,g4,hvE]
    ·rw [if_neg e,g5 b e,hvE]
   ·rw [hkl,g6]
    by_cases e:b=s
    ·subst e;rw [if_pos rfl];simp
    ·rw [if_neg e,←hkE];simp [e]
 ·have hke:k=r.length:=by omega
  subst hke
  rw [List.take_length] at hvE hkE
  unfold lr0_maker_kernels.b3
  exact hR _ _ ⟨n,r,E,hsr,hr,hrl,hE,hvE,hkE,hEl,hn,s3.take 2⟩
end Go.Proofs.Ytmoepnfobnpdiaa

/-
  lr0: a kernel's key.
-/
namespace Go.Px
theorem row_txt {e:TypeId} {a:Option Addr} {n c:Nat} {l:Txt} {w:World} {F:Nat→Prop} (h:(rowC e 1 a n c (byC l)).ok w F):(txtC e a n c l).ok w F:=by
 obtain ⟨hl,hnc,hcm⟩:=row_size h
 rw [byC_len,Nat.mul_one] at hl
 refine ⟨hl.symm,?_⟩
 rcases h.1.2 with ⟨h1,h2⟩ | ⟨g,cap,cur,hv,hb,hg,hn,hm,hs,ht⟩
 ·injection h1 with h1 _ h3
  exact Or.inl ⟨h1,h2,h3⟩
 ·injection hv with hv1 _ hv3
  subst hv1 hv3
  exact Or.inr ⟨g,cur,(0,0),rfl,h.2 g rfl,hg,Or.inl (Nat.zero_le _),hn,hm,by rw [hs,Nat.mul_one],by rw [Nat.mul_one] at ht;exact ht⟩
end Go.Px
namespace Go.Proofs.Ytmoepnfobnpdiaa
open Go.Px Go.Px.Scan Go.Px.Cn Go.RowKit
attribute [-go_sem] Builtin.append_ lr0_key.b3 lr0_key.b4 lr0_key.b7_1 lr0_key.b7
/-- Items that are owned read as a list. -/
theorem q_at1 {G:Nat→Prop} {W w:World} {L:List Ch} (s:St G W w L) (k:Nat) {a:Addr} {n c:Nat} {l:List It} (hk:L[k]?=some (qC 2 a n c (l.flatMap itV))):(rSlice rIt).at1 w w.heap.size (.slice (some a) l.length c) l:=by
 obtain ⟨F,ho,_⟩:=s.get hk
 obtain ⟨hl,hnc,hcm,hsp,hc⟩:=q_it s k hk
 obtain ⟨g,o,sp⟩:=a
 simp only at hsp
 subst hsp
 refine ⟨_,c,rfl,by omega,hcm,trivial,fun _=>⟨g,o,rfl,ho.2.2.2.2.2.1,fun i x hx=>⟨itV x,rfl,fun j u hj=>?_⟩⟩⟩
 obtain ⟨h1,h2⟩:=hc i x hx
 match j,hj with
 | 0,hj=>injection hj with hj;subst hj;exact h1
 | 1,hj=>injection hj with hj;subst hj;exact h2
 | j+2,hj=>simp [itV] at hj
theorem uBytes:Try.prog.underlying 117=some (.slice 5):=Try.underlying117
theorem iByte:(Try.prog.info? 5).map (fun i=>(i.zero,i.size,i.bytes))=some (some (.int .u8 0),1,1):=by kernel_rfl
theorem bBytes (x y z:Int) (w:World):(Instr.buildSlice 117 3 #[(0,.int .u8 x),(1,.int .u8 y),(2,.int .u8 z)]).run Try.prog w = .ok (.slice (some ⟨w.heap.size,0,none⟩) 3 3) (w.alloc (.cells #[.int .u8 x,.int .u8 y,.int .u8 z] 5)):=by
 have e1:∀(A:Array Value) (k:Nat) (q:Int),Array.foldl (fun (cs:Array Value) (x:Value×Nat)=>cs.setIfInBounds (k+x.snd) x.fst) A (Value.int .u8 q).cells.zipIdx 0 1=A.setIfInBounds k (.int .u8 q):=fun A k q=>rfl
 have e0:∀(A:Array Value) (q:Int),Array.foldl (fun (cs:Array Value) (x:Value×Nat)=>cs.setIfInBounds x.snd x.fst) A (Value.int .u8 q).cells.zipIdx 0 1=A.setIfInBounds 0 (.int .u8 q):=fun A q=>rfl
 simp [go_sem,e0,e1]
attribute [go_sem ↓] bBytes
theorem u8w (n:Nat):IntKind.u8.wrap (n:Int)=((UInt8.ofNat n).toNat:Int):=by
 simp [IntKind.wrap,IntKind.bits,IntKind.signed]
theorem key_ct {w:World} {B:Nat} {A:Option Addr} {c:Nat} {l:List It} (h:(rSlice rIt).at1 w B (.slice A l.length c) l) (hB:B≤w.heap.size) (hl:l.length≤1000000) (hd:∀x∈l,x.1≤1000000∧x.2≤1000000) :
  Ct Try.prog lr0_key.id #[.slice A l.length c] w fun v w'=>v = .string (BA (keyB l))∧Chg noB w w':=by
 refine lr0_key.ct fun R hR=>?_
 have s1:=(St.refl noB w).nilRow 5 1
 unfold lr0_key.run
 simp -dsimp [go_sem]
 unfold lr0_key.b4
 simp -dsimp [go_sem]
 refine lr0_key.l6_intro _ _ _ _ _ _ (fun y z w'=>∃(k:Nat) (a:Option Addr) (n cc:Nat),z = .int .i64 k∧y = .slice a n cc∧n=k*3∧k≤l.length∧St noB w w' [rowC 5 1 a n cc (byC (keyB (l.take k)))]) (fun _ z _=>l.length-iv z)
  ⟨0,none,0,0,rfl,rfl,rfl,by omega,s1⟩ ?_
 rintro _ _ w2 ⟨k,a,n,cc,rfl,rfl,hn,hk,s2⟩ C hC
 have wk:IntKind.i64.wrap ((k:Int)+1)=(k:Int)+1:=IntWalk.i64_in _ (by omega)
 unfold lr0_key.b7
 simp -dsimp [go_sem]
 refine SPL_intro (fun p1=>?_) (fun p1=>?_) <;> simp at p1
 ·obtain ⟨b,o,rfl,hb,x1,x2⟩:=its_at (Rep.below h (s2.chg.below hB fun _ _=>id)) p1
  obtain ⟨x,hxe⟩:∃x,l[k]=x:=⟨_,rfl⟩
  rw [hxe] at x1 x2
  have hxd:=hd x (hxe ▸ List.getElem_mem p1)
  have et:l.take (k+1)=l.take k++[x]:=by rw [List.take_succ_eq_append_getElem p1,hxe]
  have s3:=s2.alloc #[.int .i64 x.1,.int .i64 x.2] 57
  have y3:=(s3.box 1 rfl).1
  have y30:=y3.1
  have y31:=y3.2.1
  have w8:IntKind.i64.wrap ((x.2:Int) >>> 8)=((x.2 / 256:Nat):Int):=by
   have e:(x.2:Int) >>> 8=((x.2 / 256:Nat):Int):=by
    rw [Int.shiftRight_eq_div_pow];simp
   rw [e,IntWalk.i64_in _ (by omega)]
  unfold lr0_key.b7_1
  simp -dsimp [go_sem,p1,x1,x2,y30,y31]
  have e8:(x.2:Int) / 256=((x.2 / 256:Nat):Int):=by simp
  rw [e8,u8w,u8w,u8w]
  have hnew:∀j u,(byC (keyB [x]))[j]?=some u→((w2.alloc (.cells #[.int .i64 x.1,.int .i64 x.2] 57)).alloc (.cells #[.int .u8 (UInt8.ofNat x.1).toNat,.int .u8 (UInt8.ofNat x.2).toNat,.int .u8 (UInt8.ofNat (x.2 / 256)).toNat] 5)).cell? ((⟨w2.heap.size+1,0,none⟩:Addr).add j)=some u:=by
   have:=alloc_cells (w2.alloc (.cells #[.int .i64 x.1,.int .i64 x.2] 57)) (byC (keyB [x])) 5 (n:=w2.heap.size+1) (by simp)
   exact this
  have s4:=s3.old ((Chg.refl noB _).alloc (.cells #[.int .u8 (UInt8.ofNat x.1).toNat,.int .u8 (UInt8.ofNat x.2).toNat,.int .u8 (UInt8.ofNat (x.2 / 256)).toNat] 5))
  generalize ((w2.alloc (.cells #[.int .i64 x.1,.int .i64 x.2] 57)).alloc (.cells #[.int .u8 (UInt8.ofNat x.1).toNat,.int .u8 (UInt8.ofNat x.2).toNat,.int .u8 (UInt8.ofNat (x.2 / 256)).toNat] 5))=w4 at s4 hnew ⊢
  refine s4.appendN 0 rfl uBytes iByte rfl (by decide) (m:=3) (news:=byC (keyB [x])) rfl hnew (fun u hu=>by
   obtain ⟨b,_,rfl⟩:=List.mem_map.1 hu
   rfl) (by unfold maxLen;omega) (by unfold maxBytes;omega) fun a' cap w5 s5 _=>?_
  simp -dsimp [go_sem,wk]
  refine hC _ _ _ ⟨k+1,a',n+3,cap,by simp,rfl,by omega,by omega,?_⟩ (by simp [iv];omega)
  have ek:keyB (l.take (k+1))=keyB (l.take k)++keyB [x]:=by rw [et];unfold keyB;rw [List.flatMap_append]
  rw [ek,byC_append]
  exact s5.take 1
 ·have hke:k=l.length:=by omega
  subst hke
  rw [List.take_length] at s2
  have s3:=s2.turn (k:=0) rfl (d:=txtC 5 a n cc (keyB l)) fun F h=>row_txt h
  have hcv:=s3.txtConv (k:=0) (t:=117) (u:=9) rfl uBytes Try.underlying5 uStr
  unfold lr0_key.b3
  simp -dsimp [go_sem,hcv]
  exact hR _ _ ⟨rfl,s2.chg⟩
end Go.Proofs.Ytmoepnfobnpdiaa

/-
  The canonical collection sts lists.
-/
namespace Go.Px.Cn
open Go.Px
/-- The order of items with lookaheads. -/
def fLt (a b:It1):Prop:=a.1.1<b.1.1∨a.1.1=b.1.1∧(a.1.2<b.1.2∨a.1.2=b.1.2∧a.2<b.2)
instance (a b:It1):Decidable (fLt a b):=by unfold fLt;exact inferInstance
theorem fLt_ir (x:It1):¬fLt x x:=by unfold fLt;omega
theorem fLt_tr (x y z:It1) (h1:fLt x y) (h2:fLt y z):fLt x z:=by unfold fLt at *;omega
theorem fLt_tri (x y:It1):fLt x y∨x=y∨fLt y x:=by
 unfold fLt
 by_cases h:x=y
 ·exact Or.inr (Or.inl h)
 ·have:x.1.1≠y.1.1∨x.1.2≠y.1.2∨x.2≠y.2:=by
   refine Classical.byContradiction fun h2=>h (Prod.ext (Prod.ext ?_ ?_) ?_) <;> omega
  omega
/-- An item more, in order. -/
def insF (a:It1) (s:List It1):List It1:=s.filter (fun z=>fLt z a)++a::s.filter (fun z=>¬fLt z a)
theorem insF_mem {a:It1} {s:List It1} {z:It1}:z∈insF a s↔z=a∨z∈s:=by
 unfold insF
 simp only [List.mem_append,List.mem_cons,List.mem_filter,decide_eq_true_eq]
 constructor
 ·rintro (⟨h,_⟩ | h | ⟨h,_⟩)
  ·exact Or.inr h
  ·exact Or.inl h
  ·exact Or.inr h
 ·rintro (h | h)
  ·exact Or.inr (Or.inl h)
  ·by_cases hz:fLt z a
   ·exact Or.inl ⟨h,hz⟩
   ·exact Or.inr (Or.inr ⟨h,by simpa using hz⟩)
theorem insF_srt {a:It1} {s:List It1} (h:s.Pairwise fLt) (ha:a∉s):(insF a s).Pairwise fLt:=by
 unfold insF
 rw [List.pairwise_append,List.pairwise_cons]
 have up:∀z∈s.filter (fun z=>decide (¬fLt z a)),fLt a z:=fun z hz=>by
  rw [List.mem_filter] at hz
  have h2:¬fLt z a:=by simpa using hz.2
  rcases fLt_tri a z with h3 | h3 | h3
  ·exact h3
  ·subst h3;exact absurd hz.1 ha
  ·exact absurd h3 h2
 have dn:∀z∈s.filter (fun z=>decide (fLt z a)),fLt z a:=fun z hz=>by
  rw [List.mem_filter] at hz
  simpa using hz.2
 refine ⟨h.filter _,⟨up,h.filter _⟩,fun x hx y hy=>?_⟩
 rcases List.mem_cons.1 hy with rfl | hy
 ·exact dn x hx
 ·exact fLt_tr _ _ _ (dn x hx) (up y hy)
/-- What an item brings along. -/
def Succ (P:Prs) (FI:List Int→Nat→Nat→Prop) (z z':It1):Prop:=∃s q u,aft P z.1=some s∧q<P.length∧lft P q=s∧FI ((rgt P z.1.1).drop (z.1.2+1)) z.2 u∧z'=((q,0),u)
/-- A closure under way. -/
structure ClI1 (P:Prs) (FI:List Int→Nat→Nat→Prop) (l0 s todo:List It1):Prop where
 snd:∀z,z∈s∨z∈todo→Cl1 P FI (·∈l0) z
 bas:∀z∈l0,z∈s∨z∈todo
 cls:∀z∈s,∀z',Succ P FI z z'→z'∈s∨z'∈todo
 srt:s.Pairwise fLt
section
variable {P:Prs} {FI:List Int→Nat→Nat→Prop}
theorem ClI1.start (l0:List It1):ClI1 P FI l0 [] l0:=⟨fun z h => .base (by simpa using h),fun z h=>Or.inr h,by simp,by simp⟩
theorem ClI1.old {l0 s todo:List It1} {a:It1} (h:ClI1 P FI l0 s (a::todo)) (ha:a∈s):ClI1 P FI l0 s todo:=by
 have hm:∀z,z∈s∨z∈a::todo→z∈s∨z∈todo:=fun z hz=>by
  rcases hz with hz | hz
  ·exact Or.inl hz
  ·rcases List.mem_cons.1 hz with rfl | hz
   ·exact Or.inl ha
   ·exact Or.inr hz
 exact ⟨fun z hz=>h.snd z (hz.imp id fun h=>by simp [h]),fun z hz=>hm z (h.bas z hz),fun z hz z' hs=>hm z' (h.cls z hz z' hs),h.srt⟩
theorem ClI1.new {l0 s todo more:List It1} {a:It1} (h:ClI1 P FI l0 s (a::todo)) (ha:a∉s) (hm:∀z,z∈more↔Succ P FI a z):ClI1 P FI l0 (insF a s) (todo++more):=by
 have up:∀z,z∈s∨z∈a::todo→z∈insF a s∨z∈todo++more:=fun z hz=>by
  rcases hz with hz | hz
  ·exact Or.inl (insF_mem.2 (Or.inr hz))
  ·rcases List.mem_cons.1 hz with rfl | hz
   ·exact Or.inl (insF_mem.2 (Or.inl rfl))
   ·exact Or.inr (by simp [hz])
 refine ⟨fun z hz=>?_,fun z hz=>up z (h.bas z hz),fun z hz z' hs=>?_,insF_srt h.srt ha⟩
 ·rcases hz with hz | hz
  ·rcases insF_mem.1 hz with rfl | hz
   ·exact h.snd _ (Or.inr (by simp))
   ·exact h.snd _ (Or.inl hz)
  ·rcases List.mem_append.1 hz with hz | hz
   ·exact h.snd _ (Or.inr (by simp [hz]))
   ·obtain ⟨s',q,u,h1,h2,h3,h4,rfl⟩:=(hm z).1 hz
    exact .step (x:=a.1) (t:=a.2) (h.snd a (Or.inr (by simp))) h1 h2 h3 h4
 ·rcases insF_mem.1 hz with rfl | hz
  ·exact Or.inr (List.mem_append_right _ ((hm z').2 hs))
  ·exact up z' (h.cls z hz z' hs)
theorem ClI1.fin {l0 s:List It1} (h:ClI1 P FI l0 s []) (z:It1):z∈s↔Cl1 P FI (·∈l0) z:=by
 refine ⟨fun hz=>h.snd z (Or.inl hz),fun hz=>?_⟩
 induction hz with
 | base h1=>exact (h.bas _ h1).elim id fun h=>by cases h
 | @step x t s' q u _ h2 h3 h4 h5 ih=>exact (h.cls _ ih _ ⟨s',q,u,h2,h3,h4,h5,rfl⟩).elim id fun h=>by cases h
/-- The items behind a symbol. -/
def behL (P:Prs) (a:List It1) (s:Int):List It1:=(a.filter fun z=>aft P z.1=some s).map fun z=>((z.1.1,z.1.2+1),z.2)
theorem mem_behL {a:List It1} {s:Int} {z:It1}:z∈behL P a s↔Go1 P (·∈a) s z:=by
 unfold behL Go1
 rw [List.mem_map]
 constructor
 ·rintro ⟨y,hy,rfl⟩
  rw [List.mem_filter] at hy
  exact ⟨y.1,hy.1,by simpa using hy.2,rfl⟩
 ·rintro ⟨y,h1,h2,h3⟩
  exact ⟨(y,z.2),List.mem_filter.2 ⟨h1,by simpa using h2⟩,Prod.ext h3.symm rfl⟩
theorem Cl1.ne {K:It1→Prop} {z:It1} (h:Cl1 P FI K z):∃y,K y:=by
 induction h with
 | base h=>exact ⟨_,h⟩
 | step _ _ _ _ _ ih=>exact ih
theorem Cl1.congr {K K':It1→Prop} (h:∀x,K x↔K' x) (z:It1):Cl1 P FI K z↔Cl1 P FI K' z:=by
 have e:K=K':=by funext x;exact propext (h x)
 rw [e]
/-- A collection under way. -/
structure ColI (P:Prs) (FI:List Int→Nat→Nat→Prop) (sts:List (List It1)) (n:Nat):Prop where
 start:∃a,sts[0]?=some a∧∀z,z∈a↔Cl1 P FI (fun z=>z=((0,0),0)) z
 r1:∀a∈sts,R1 P FI (·∈a)
 go:∀(j:Nat) a,j<n→sts[j]?=some a→∀s,(∃z,Go1 P (·∈a) s z)→∃a'∈sts,∀z,z∈a'↔Cl1 P FI (Go1 P (·∈a) s) z
 srt:∀a∈sts,a.Pairwise fLt
theorem ColI.fin {sts:List (List It1)} (h:ColI P FI sts sts.length):Lr1 P FI sts where
 start:=by
  obtain ⟨a,h1,h2⟩:=h.start
  exact ⟨a,List.mem_of_getElem? h1,h2⟩
 r1:=h.r1
 go a ha s hs:=by
  obtain ⟨j,hj,rfl⟩:=List.getElem_of_mem ha
  exact h.go j _ hj (List.getElem?_eq_getElem hj) s hs
theorem ColI.first {a:List It1} (h:∀z,z∈a↔Cl1 P FI (·∈[((0,0),0)]) z) (hs:a.Pairwise fLt):ColI P FI [a] 0 where
 start:=⟨a,rfl,fun z=>(h z).trans (Cl1.congr (fun x=>by simp) z)⟩
 r1 b hb:=by
  rw [List.mem_singleton] at hb;subst hb
  have e:(·∈b)=Cl1 P FI (fun z=>z=((0,0),0)):=by funext z;exact propext ((h z).trans (Cl1.congr (fun x=>by simp) z))
  rw [e];exact .start
 go j b hj:=by omega
 srt b hb:=by rw [List.mem_singleton] at hb;subst hb;exact hs
theorem ColI.snoc {sts:List (List It1)} {i:Nat} (h:ColI P FI sts i) {a k:List It1} {s:Int} (ha:sts[i]?=some a) (hk:∀z,z∈k↔Cl1 P FI (·∈behL P a s) z) (hne:k≠[]) (hs:k.Pairwise fLt):ColI P FI (sts++[k]) i:=by
 have hil:=(List.getElem?_eq_some_iff.1 ha).1
 have hk':∀z,z∈k↔Cl1 P FI (Go1 P (·∈a) s) z:=fun z=>(hk z).trans (Cl1.congr (fun x=>mem_behL) z)
 refine ⟨?_,fun m hm=>?_,fun j m hj hm s' hx=>?_,fun m hm=>?_⟩
 ·obtain ⟨b,h1,h2⟩:=h.start
  exact ⟨b,by rw [List.getElem?_append_left (by omega)];exact h1,h2⟩
 ·rcases List.mem_append.1 hm with hm | hm
  ·exact h.r1 m hm
  ·rw [List.mem_singleton] at hm;subst hm
   have e:(·∈m)=Cl1 P FI (Go1 P (·∈a) s):=by funext z;exact propext (hk' z)
   rw [e]
   obtain ⟨z,hz⟩:=List.exists_mem_of_ne_nil m hne
   exact .step (h.r1 a (List.mem_of_getElem? ha)) ((hk' z).1 hz).ne
 ·rw [List.getElem?_append_left (by omega)] at hm
  obtain ⟨l',h1,h2⟩:=h.go j m hj hm s' hx
  exact ⟨l',List.mem_append_left _ h1,h2⟩
 ·rcases List.mem_append.1 hm with hm | hm
  ·exact h.srt m hm
  ·rw [List.mem_singleton] at hm;subst hm;exact hs
theorem ColI.next {sts:List (List It1)} {i:Nat} (h:ColI P FI sts i) {a:List It1} (ha:sts[i]?=some a) (hg:∀s,(∃z,Go1 P (·∈a) s z)→∃a'∈sts,∀z,z∈a'↔Cl1 P FI (·∈behL P a s) z):ColI P FI sts (i+1):=by
 refine ⟨h.start,h.r1,fun j m hj hm s hx=>?_,h.srt⟩
 rcases Nat.lt_or_ge j i with h1 | h1
 ·exact h.go j m h1 hm s hx
 ·have:j=i:=by omega
  subst this
  rw [ha] at hm;injection hm with hm;subst hm
  obtain ⟨a',h2,h3⟩:=hg s hx
  exact ⟨a',h2,fun z=>(h3 z).trans (Cl1.congr (fun x=>mem_behL) z)⟩
end
/-- A state's items, without their lookaheads. -/
def coreF (a:List It1):List It:=a.foldl (fun out z=>if out.getLast?=some z.1 then out else out++[z.1]) []
theorem coreF_snoc (a:List It1) (z:It1):coreF (a++[z])=if (coreF a).getLast?=some z.1 then coreF a else coreF a++[z.1]:=by
 unfold coreF
 rw [List.foldl_append];rfl
theorem coreF_mem (a:List It1) (x:It):x∈coreF a↔Core (·∈a) x:=by
 have key:∀n,∀a:List It1,a.length=n→∀x,x∈coreF a↔Core (·∈a) x:=by
  intro n
  induction n with
  | zero=>intro a ha x;rw [List.length_eq_zero_iff] at ha;subst ha;simp [coreF,Core]
  | succ n ih =>
   intro a ha x
   obtain ⟨b,z,rfl⟩:∃b z,a=b++[z]:=by
    have hne:a≠[]:=by rintro rfl;simp at ha
    exact ⟨a.dropLast,a.getLast hne,(List.dropLast_concat_getLast hne).symm⟩
   have ihb:=ih b (by simpa using ha)
   rw [coreF_snoc]
   have hc:Core (·∈b++[z]) x↔Core (·∈b) x∨x=z.1:=by
    constructor
    ·rintro ⟨t,ht⟩
     rcases List.mem_append.1 ht with ht | ht
     ·exact Or.inl ⟨t,ht⟩
     ·rw [List.mem_singleton] at ht;exact Or.inr (by rw [←ht])
    ·rintro (⟨t,ht⟩ | rfl)
     ·exact ⟨t,List.mem_append_left _ ht⟩
     ·exact ⟨z.2,List.mem_append_right _ (by simp)⟩
   rw [hc,←ihb x]
   split
   ·rename_i h
    have hz:z.1∈coreF b:=List.mem_of_getLast? h
    exact ⟨Or.inl,fun h=>h.elim id fun e=>e ▸ hz⟩
   ·rw [List.mem_append,List.mem_singleton]
 exact key _ a rfl x
theorem coreF_srt {a:List It1} (h:a.Pairwise fLt):(coreF a).Pairwise itLt∧∀x,(coreF a).getLast?=some x→∃t,a.getLast?=some (x,t):=by
 have key:∀n,∀a:List It1,a.length=n→a.Pairwise fLt→(coreF a).Pairwise itLt∧∀x,(coreF a).getLast?=some x→∃t,a.getLast?=some (x,t):=by
  intro n
  induction n with
  | zero=>intro a ha _;rw [List.length_eq_zero_iff] at ha;subst ha;exact ⟨by simp [coreF],fun x h=>by simp [coreF] at h⟩
  | succ n ih =>
   intro a ha hp
   obtain ⟨b,z,rfl⟩:∃b z,a=b++[z]:=by
    have hne:a≠[]:=by rintro rfl;simp at ha
    exact ⟨a.dropLast,a.getLast hne,(List.dropLast_concat_getLast hne).symm⟩
   rw [List.pairwise_append] at hp
   obtain ⟨hb,_,hbz⟩:=hp
   obtain ⟨h1,h2⟩:=ih b (by simpa using ha) hb
   rw [coreF_snoc]
   split
   ·rename_i h
    refine ⟨h1,fun x hx=>?_⟩
    rw [h] at hx;injection hx with hx;subst hx
    exact ⟨z.2,by simp⟩
   ·rename_i h
    refine ⟨?_,fun x hx=>⟨z.2,by simp at hx ⊢;rw [←hx]⟩⟩
    rw [List.pairwise_append]
    refine ⟨h1,by simp,fun x hx y hy=>?_⟩
    rw [List.mem_singleton] at hy;subst hy
    obtain ⟨t,ht⟩:=(coreF_mem b x).1 hx
    have:=hbz _ ht z (by simp)
    unfold fLt at this
    unfold itLt
    by_cases e:x=z.1
    ·exfalso
     subst e
          -- the last one is the greatest
     have hne:coreF b≠[]:=by rintro e;rw [e] at hx;cases hx
     obtain ⟨y,hy⟩:∃y,(coreF b).getLast?=some y:=⟨_,List.getLast?_eq_some_getLast hne⟩
     obtain ⟨t2,ht2⟩:=h2 y hy
     have hyz:=hbz _ (List.mem_of_getLast? ht2) z (by simp)
     have hne2:y≠z.1:=fun e=>h (by rw [hy,e])
          -- y is not less than z.1, sts z.1 stands in the sorted core and y is its last
     have hlast:∀w∈coreF b,w=y∨itLt w y:=by
      intro w hw
      obtain ⟨c,hc⟩:∃c,coreF b=c++[y]:=⟨(coreF b).dropLast,by
       have:=List.dropLast_concat_getLast hne
       rw [List.getLast?_eq_some_getLast hne] at hy
       injection hy with hy
       rw [hy] at this;exact this.symm⟩
      rw [hc] at hw h1
      rw [List.pairwise_append] at h1
      rcases List.mem_append.1 hw with hw | hw
      ·exact Or.inr (h1.2.2 w hw y (by simp))
      ·rw [List.mem_singleton] at hw;exact Or.inl hw
     rcases hlast z.1 hx with h3 | h3
     ·exact hne2 h3.symm
     ·unfold itLt at h3
      unfold fLt at hyz
      simp only at hyz
      omega
    ·have:x.1≠z.1.1∨x.2≠z.1.2:=by
      refine Classical.byContradiction fun h2=>e (Prod.ext ?_ ?_) <;> omega
     simp only at *
     omega
 exact key _ a rfl h
end Go.Px.Cn

/-
  Items with lookaheads: After, IsNon, before.
-/
namespace Go.Px.Cn
open Go.Px
def fV (z:It1):List Value:=[.int .i64 z.1.1,.int .i64 z.1.2,.int .i64 z.2]
/-- An item with a lookahead in memory. -/
def rFl:Rep It1 where
 size:=3
 bytes:=24
 ok _ _ cs x:=cs=fV x
 len h:=by rw [h];rfl
 keep h _ _:=h
 one h u hu:=by rw [h] at hu;simp [fV] at hu;rcases hu with rfl | rfl | rfl <;> rfl
theorem fls_at {w:World} {B n c:Nat} {A:Option Addr} {l:List It1} (h:(rSlice rFl).at1 w B (.slice A n c) l) {i:Nat} (hi:i<l.length):∃b o,A=some ⟨b,o,none⟩∧b<B∧w.cell? ⟨b,o+i*3,none⟩=some (.int .i64 l[i].1.1)∧w.cell? ⟨b,o+i*3+1,none⟩=some (.int .i64 l[i].1.2)∧w.cell? ⟨b,o+i*3+2,none⟩=some (.int .i64 l[i].2):=by
 obtain ⟨b,o,ys,hA,hb,hy,hc⟩:=slice_at h hi
 have hy:ys=fV l[i]:=hy
 subst hy
 exact ⟨b,o,hA,hb,hc 0 _ rfl,hc 1 _ rfl,hc 2 _ rfl⟩
end Go.Px.Cn
namespace Go.Proofs.Ytmoepnfobnpdiaa
open Go.Px Go.Px.Scan Go.Px.Cn Go.RowKit
attribute [-go_sem] Builtin.append_ ref09_After.b1_1 ref02_IsNon.b1_1 top_before.b1_1 top_before.b1_2 top_before.b1_3 top_before.b1_4
theorem After_ct {w:World} {B:Nat} {vg:Value} {g:Gr} (hg:rGram.atN w B vg g) (hB:B≤w.heap.size) (x:It) (hx:x.1<g.prods.length∧x.2≤(rgt g.prods x.1).length) :
  Ct Try.prog ref09_After.id #[vg,.agg #[.int .i64 x.1,.int .i64 x.2]] w fun v w'=>v = .int .i64 (aftI g.prods x)∧Chg noB w w':=by
 refine ref09_After.ct fun R hR=>?_
 obtain ⟨A1,c1,A2,c2,A3,c3,A4,c4,rfl,⟨m1,m2,m3,m4⟩,hst,hc0,hgr⟩:=box_all hg hB
 have hr4:(rSlice rPr).at1 w B (.slice A4 g.prods.length c4) g.prods:=by obtain ⟨_,_,_,_,_,_,_,_,e,_,_,_,_,h5,_⟩:=(rGram_open hg).ex;injection e with e;injection e with e;simp at e;rw [e.2.2.2.1,e.2.2.2.2];exact h5
 have s1:=((St.refl noB w).alloc #[.slice A1 g.terms.length c1,.slice A2 g.nons.length c2,.slice A3 g.levels.length c3,.int .i64 g.start,.slice A4 g.prods.length c4] 27).alloc #[.int .i64 x.1,.int .i64 x.2] 57
 obtain ⟨q,hq⟩:∃q,w.heap.size=q:=⟨_,rfl⟩
 have e1:(w.alloc (.cells #[.slice A1 g.terms.length c1,.slice A2 g.nons.length c2,.slice A3 g.levels.length c3,.int .i64 g.start,.slice A4 g.prods.length c4] 27)).heap.size=q+1:=by simp [hq]
 rw [e1,hq] at s1
 obtain ⟨bp,op,vr,eA,hbp,x1,x2,x3,hr,_⟩:=prods_at hr4 hx.1
 subst eA
 obtain ⟨Ar,cr,rfl,hrl,hrm,_⟩:=slice_form hr
 obtain ⟨rt,er⟩:∃rt,(g.prods[x.1]'hx.1).2.1=rt:=⟨_,rfl⟩
 have ert:rgt g.prods x.1=rt:=by rw [←er];have h:=hx.1;simp [rgt,h]
 rw [er] at x2 hr hrl
 have x2:=s1.chg.at x2 id
 have hrd:=Rep.below hr (s1.chg.below hB fun _ _=>id)
 have hlt:=hx.1
 have y0:=(s1.box 0 rfl).1
 have y1:=(s1.box 1 rfl).1
 simp [boxAt] at y0 y1
 unfold ref09_After.run
 simp -dsimp [go_sem,hq,y0,y1,hlt,x2]
 generalize (w.alloc (.cells #[.slice A1 g.terms.length c1,.slice A2 g.nons.length c2,.slice A3 g.levels.length c3,.int .i64 g.start,.slice (some ⟨bp,op,none⟩) g.prods.length c4] 27)).alloc (.cells #[.int .i64 x.1,.int .i64 x.2] 57)=w1 at s1 x2 hrd y0 y1 ⊢
 rw [ert] at hx
 refine SPL_intro (fun p1=>?_) (fun p1=>?_)
 ·have p1':x.2=rt.length:=by
   have:(x.2:Int)=(rt.length:Int):=by simpa using p1
   omega
  refine hR _ _ ⟨?_,s1.chg⟩
  unfold aftI aft
  rw [ert,p1',List.getElem?_eq_none (Nat.le_refl _)];rfl
 ·have p1':x.2<rt.length:=by
   have:(x.2:Int)≠(rt.length:Int):=by simpa using p1
   omega
  obtain ⟨br,or',eAr,hbr,cx,hxin⟩:=Go.Px.ints_at hrd p1'
  subst eAr
  unfold ref09_After.b1_1
  simp -dsimp [go_sem,y1,p1',cx]
  refine hR _ _ ⟨?_,s1.chg⟩
  unfold aftI aft
  rw [ert,List.getElem?_eq_getElem p1'];rfl
theorem IsNon_ct {w:World} {B:Nat} {vg:Value} {g:Gr} (hg:rGram.atN w B vg g) (hB:B≤w.heap.size) (hs:g.terms.length+g.nons.length≤1000) (s:Int) :
  Ct Try.prog ref02_IsNon.id #[vg,.int .i64 s] w fun v w'=>v = .bool (decide ((g.terms.length:Int)≤s∧s<(g.terms.length:Int)+g.nons.length))∧Chg noB w w':=by
 refine ref02_IsNon.ct fun R hR=>?_
 obtain ⟨A1,c1,A2,c2,A3,c3,A4,c4,rfl,⟨m1,m2,m3,m4⟩,hst,hc0,hgr⟩:=box_all hg hB
 have y1:=(hgr _ (Chg.refl _ _)).k
 have hg1:=rGram_below hg (hc0.below hB fun _ _=>id)
 have hB1:=(hgr _ (Chg.refl _ _)).sz
 unfold ref02_IsNon.run
 simp -dsimp [go_sem,y1]
 refine SPL_intro (fun p1=>?_) (fun p1=>?_) <;> simp at p1
 ·unfold ref02_IsNon.b1_1
  simp -dsimp [go_sem,y1]
  refine CALL_of (Symbols_ct hg1 hB1 hs) ?_
  rintro _ w2 ⟨rfl,hc2⟩
  simp -dsimp [go_sem]
  exact hR _ _ ⟨by congr 1;simp [p1],hc0.trans hc2⟩
 ·refine hR _ _ ⟨?_,hc0⟩
  congr 1
  symm
  rw [decide_eq_false]
  omega
theorem before_ct (a b:It1) (w:World):Ct Try.prog top_before.id #[.agg #[.int .i64 a.1.1,.int .i64 a.1.2,.int .i64 a.2],.agg #[.int .i64 b.1.1,.int .i64 b.1.2,.int .i64 b.2]] w fun v w'=>(∃r,v = .bool r∧(r=true↔fLt a b))∧Chg noB w w':=by
 refine top_before.ct fun R hR=>?_
 obtain ⟨q,hq⟩:∃q,w.heap.size=q:=⟨_,rfl⟩
 have s1:=((St.refl noB w).alloc #[.int .i64 a.1.1,.int .i64 a.1.2,.int .i64 a.2] 79).alloc #[.int .i64 b.1.1,.int .i64 b.1.2,.int .i64 b.2] 79
 have e1:(w.alloc (.cells #[.int .i64 a.1.1,.int .i64 a.1.2,.int .i64 a.2] 79)).heap.size=q+1:=by simp [hq]
 rw [e1,hq] at s1
 have y0:=(s1.box 0 rfl).1
 have y1:=(s1.box 1 rfl).1
 simp [boxAt] at y0 y1
 unfold top_before.run
 simp -dsimp [go_sem,hq,y0,y1]
 generalize (w.alloc (.cells #[.int .i64 a.1.1,.int .i64 a.1.2,.int .i64 a.2] 79)).alloc (.cells #[.int .i64 b.1.1,.int .i64 b.1.2,.int .i64 b.2] 79)=w1 at s1 y0 y1 ⊢
 refine SPL_intro (fun p1=>?_) (fun p1=>?_) <;> simp at p1
 ·unfold top_before.b1_1
  simp -dsimp [go_sem,y0,y1]
  refine hR _ _ ⟨⟨_,rfl,?_⟩,s1.chg⟩
  unfold fLt;simp;omega
 ·unfold top_before.b1_4
  simp -dsimp [go_sem,y0,y1]
  refine SPL_intro (fun p2=>?_) (fun p2=>?_) <;> simp at p2
  ·unfold top_before.b1_2
   simp -dsimp [go_sem,y0,y1]
   refine hR _ _ ⟨⟨_,rfl,?_⟩,s1.chg⟩
   unfold fLt;simp;omega
  ·unfold top_before.b1_3
   simp -dsimp [go_sem,y0,y1]
   refine hR _ _ ⟨⟨_,rfl,?_⟩,s1.chg⟩
   unfold fLt;simp;omega
end Go.Proofs.Ytmoepnfobnpdiaa
