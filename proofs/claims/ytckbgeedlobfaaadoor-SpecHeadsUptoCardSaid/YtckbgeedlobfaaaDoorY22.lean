/-
  Texts of this claim: Rk1, Rk2, Rk3, Rk4, Rf1, Rf2, Rf3, Rk5.
-/
import Derived.Test.YtckbgeedlobfaaaDoorY21
import Derived.Test.YtckbgeedlobfaaaDoorY13
import Derived.Test.YtckbgeedlobfaaaDoorY16
import Derived.Test.YtckbgeedlobfaaaDoorY02
set_option maxHeartbeats 1000000
set_option linter.unusedSimpArgs false
set_option linter.unusedVariables false
set_option maxRecDepth 100000
/-
  The document's text: its pieces; term, has.
-/
namespace Go.Px.Spec
open Go.Px Go.Px.Scan
/-- What the document's text holds. -/
structure Rx where
 ph:Nat
 sd:Nat
 ts:List (ByteArray×Int)
 lv:List Int
 rows:List RowS
 rl:ByteArray
 ls:List ByteArray
 st:ByteArray
def rxOf (m:Mc):Rx:=⟨m.ph,sideL m.heads,tmOf m.heads,lvOf m.heads,m.rows,m.rule,dd m.lefts,m.start⟩
/-- The words of the last row. -/
def lw (rows:List RowS):List Wd:=(rows.getLast?.map (·.words)).getD []
/-- A terminal's place; -1: it did not come. -/
def posI (ts:List (ByteArray×Int)) (t:ByteArray):Int:=if posN (ts.map (·.1)) t<ts.length then posN (ts.map (·.1)) t else -1
end Go.Px.Spec
namespace Go.Proofs.YtckbgeedlobfaaaDoor
open Go.Px Go.Px.Scan Go.Px.Spec Go.RowKit
attribute [-go_sem] Builtin.append_

structure TD where
 At:Option Addr
 ct:Nat
 Al:Option Addr
 cl:Nat
 Ar:Option Addr
 cr:Nat
 us:List Value
 Ax:Option Addr
 cx:Nat
 Af:Option Addr
 cf:Nat
def encRf (r:RowS×Value):List Value:=[.string r.1.left,r.2,.int .i64 r.1.said,.string r.1.by_]
def txBox (x:Rx) (D:TD):List Value:=[.int .i64 x.ph,.int .i64 x.sd,.slice D.At x.ts.length D.ct,.slice D.Al x.lv.length D.cl,.slice D.Ar x.rows.length D.cr,.string x.rl,.slice D.Af x.ls.length D.cf,.string x.st]
/-- The pieces of the document's text. -/
def txL (tb:Nat) (x:Rx) (D:TD):List Ch :=
 [boxC tb 69 (txBox x D),rowC 39 2 D.At x.ts.length D.ct (x.ts.flatMap termE),rowC 3 1 D.Al x.lv.length D.cl (x.lv.map (Value.int .i64 ·)),
   rowC 124 4 D.Ar x.rows.length D.cr ((x.rows.zip (D.us++[.slice D.Ax (lw x.rows).length D.cx])).flatMap encRf),
   rowsC 46 3 D.us (x.rows.dropLast.map fun r=>r.words.flatMap encW),rowC 46 3 D.Ax (lw x.rows).length D.cx ((lw x.rows).flatMap encW),
   rowC 9 1 D.Af x.ls.length D.cf (x.ls.map Value.string)]

section
variable {G:Nat→Prop} {W w:World} {L:List Ch} {tb:Nat} {x:Rx} {D:TD}

end
end Go.Proofs.YtckbgeedlobfaaaDoor

/-
  The document's text: header.
-/
namespace Go.Px.Spec
open Go.Px Go.Px.Scan
/-- Bounds. -/
structure XB (x:Rx):Prop where
 ts:x.ts.length≤100000
 lv:x.lv.length≤100000
 rows:x.rows.length≤100000
 lw:(lw x.rows).length≤100000
 ls:x.ls.length≤100000
end Go.Px.Spec
namespace Go.Proofs.YtckbgeedlobfaaaDoor
open Go.Px Go.Px.Scan Go.Px.Spec Go.RowKit
attribute [-go_sem] Builtin.append_

/-- How a step of the document's ends: it can stand there, or it can't. -/
def XEnd (F:Nat→Prop) (w:World) (tb:Nat) (o:Option Rx) (v:Value) (w':World):Prop :=
 match o with
 | some x'=>v = .bool true∧∃D',St F w w' (txL tb x' D')
 | none=>v = .bool false∧∃x' D',St F w w' (txL tb x' D')

section
variable {F:Nat→Prop} {w w1:World} {R:EP} {tb:Nat} {x:Rx} {D:TD}

end
end Go.Proofs.YtckbgeedlobfaaaDoor

/-
  The document's text: listed.
-/
namespace Go.Px.Spec
open Go.Px Go.Px.Scan
end Go.Px.Spec
namespace Go.Proofs.YtckbgeedlobfaaaDoor
open Go.Px Go.Px.Scan Go.Px.Spec Go.RowKit
attribute [-go_sem] Builtin.append_

section
variable {F:Nat→Prop} {w w1:World} {R:EP} {tb:Nat} {x:Rx} {D:TD}

end
end Go.Proofs.YtckbgeedlobfaaaDoor

/-
  The document's text: begin, another.
-/
namespace Go.Px.Spec
open Go.Px Go.Px.Scan
end Go.Px.Spec
namespace Go.Proofs.YtckbgeedlobfaaaDoor
open Go.Px Go.Px.Scan Go.Px.Spec Go.RowKit
attribute [-go_sem] Builtin.append_

theorem bRf (t:ByteArray) (w:World):(Instr.build 124 #[(0,.string t)]).run Tryd.prog w = .ok (.agg #[.string t,.slice none 0 0,.int .i64 0,.string ⟨#[]⟩]) w:=by simp [go_sem]
attribute [go_sem ↓] bRf

section
variable {F:Nat→Prop} {w w1:World} {R:EP} {tb:Nat} {x:Rx} {D:TD}

end
end Go.Proofs.YtckbgeedlobfaaaDoor

/-
  The document's answer: skipping, orders.
-/
namespace Go.Proofs.YtckbgeedlobfaaaDoor
open Go.Px Go.Px.Scan Go.RowKit

theorem ref_Skip_ct {s:ByteArray} (k:Nat) (hk:k≤s.size) (hs:s.size≤maxLen) (w:World):Ct Tryd.prog ref03_Skip.id #[.string s,.int .i64 k] w fun v w'=>v = .int .i64 (skipS s false k:Nat)∧w=w':=by
 refine ref03_Skip.ct fun R hR=>?_
 unfold ref03_Skip.run ref03_Skip.b1
 refine ref03_Skip.l5_intro _ _ _ _ _ (fun x c w1=>∃(j:Nat) (cm:Bool),x = .int .i64 j∧c = .bool cm∧w=w1∧j≤s.size∧skipS s cm j=skipS s false k) (fun x _ _=>s.size-iv x) ⟨k,false,rfl,rfl,rfl,hk,rfl⟩ ?_
 rintro _ _ _ ⟨j,cm,rfl,rfl,rfl,hj,he⟩ C hC
 unfold ref03_Skip.b6
 simp [go_sem]
 refine SPL_intro (fun h=>?_) (fun h=>?_) <;> simp at h
 ·have step:∀cm',skipS s cm j=skipS s cm' (j+1)→ref03_Skip.b10 R C (.int .i64 j) (.bool cm') w:=by
   intro cm' he'
   unfold ref03_Skip.b10
   simp [go_sem,wrap_succ h hs]
   exact hC _ _ _ ⟨j+1,cm',rfl,rfl,rfl,h,by rw [←he,he']⟩ (by simp [iv];omega)
  have body:∀bl,bl=blankN (bt s j)→ref03_Skip.b9 R C (.int .i64 j) (.bool cm) (.int .u8 (bt s j)) (.bool bl) w:=by
   intro bl hbl
   unfold ref03_Skip.b9
   cases cm with
   | true =>
    simp [go_sem]
    refine step _ ?_
    conv=>lhs;unfold skipS
    rw [if_pos h,if_pos rfl]
    congr 1
    rw [Bool.eq_iff_iff];simp;omega
   | false =>
    simp [go_sem]
    refine SPL_intro (fun h1=>?_) (fun h1=>?_) <;> simp at h1
    ·refine step _ ?_
     conv=>lhs;unfold skipS
     rw [if_pos h,if_neg (by simp),if_pos (by omega)]
    ·cases bl with
     | true=>simp [go_sem];exact step _ (skip_blank h hbl.symm)
     | false=>simp [go_sem];exact hR _ _ ⟨by rw [←he,skip_none h hbl.symm (by omega)],rfl⟩
  unfold ref03_Skip.b8
  simp [go_sem,index_bt,h]
  refine SPL_intro (fun h1=>?_) (fun h1=>?_) <;> simp at h1
  ·exact body _ (by simp [blankN];omega)
  simp [go_sem]
  refine SPL_intro (fun h2=>?_) (fun h2=>?_) <;> simp at h2
  ·exact body _ (by simp [blankN];omega)
  simp [go_sem]
  refine SPL_intro (fun h3=>?_) (fun h3=>?_) <;> simp at h3
  ·exact body _ (by simp [blankN];omega)
  simp [go_sem]
  exact body _ (by rw [Bool.eq_iff_iff];simp [blankN];omega)
 ·unfold ref03_Skip.b3
  exact hR _ _ ⟨by rw [←he,skip_end h],rfl⟩

def ordersR:List ByteArray:=[⟨#[37,116,111,107,101,110]⟩,⟨#[37,108,101,102,116]⟩,⟨#[37,114,105,103,104,116]⟩,⟨#[37,110,111,110,97,115,115,111,99]⟩,⟨#[37,115,116,97,114,116]⟩,⟨#[37,112,114,101,99]⟩,⟨#[37,110,111,110,101]⟩]

theorem ordersR_any (p:ByteArray→Bool):ordersR.any p=ordersL.any p:=by
 simp only [ordersR,ordersL,List.any_cons,List.any_nil,Bool.or_false]
 generalize p ⟨#[37,116,111,107,101,110]⟩=a1
 generalize p ⟨#[37,108,101,102,116]⟩=a2
 generalize p ⟨#[37,114,105,103,104,116]⟩=a3
 generalize p ⟨#[37,110,111,110,97,115,115,111,99]⟩=a4
 generalize p ⟨#[37,115,116,97,114,116]⟩=a5
 generalize p ⟨#[37,112,114,101,99]⟩=a6
 generalize p ⟨#[37,110,111,110,101]⟩=a7
 revert a1 a2 a3 a4 a5 a6 a7
 decide

theorem ref_Orders_ct (w:World):Ct Tryd.prog ref03_Orders.id #[] w fun v w'=>v = .slice (some ⟨w.heap.size,0,none⟩) 7 7∧w.alloc (.cells (ordersR.map Value.string).toArray 9)=w':=by
 refine ref03_Orders.ct fun R hR=>?_
 unfold ref03_Orders.run ref03_Orders.b1
 simp [go_sem]
 exact hR _ _ ⟨rfl,rfl⟩

theorem prefB_self (o s:ByteArray):(o.toList == s.toList || (decide (s.size<o.size) && ((o.extract 0 s.size).toList == s.toList)))=prefB o s:=by
 have ho:o.toList.length=o.size:=by rw [ByteArray.toList_eq];simp
 have hs:s.toList.length=s.size:=by rw [ByteArray.toList_eq];simp
 have hx:(o.extract 0 s.size).toList=o.toList.take s.size:=by rw [Lib.extract_toList,ByteArray.toList_eq];simp
 unfold prefB
 rw [hx]
 rcases Nat.lt_trichotomy s.size o.size with h | h | h
 ·have h1:(o.toList == s.toList)=false:=by
   rw [beq_eq_false_iff_ne];intro e;have:=congrArg List.length e;omega
  rw [h1,decide_eq_true h,decide_eq_true (Nat.le_of_lt h)];simp
 ·rw [h,←ho,List.take_length,ho]
  simp
 ·have h1:(o.toList == s.toList)=false:=by
   rw [beq_eq_false_iff_ne];intro e;have:=congrArg List.length e;omega
  rw [h1,decide_eq_false (by omega:¬s.size<o.size),decide_eq_false (by omega:¬s.size≤o.size)];simp

theorem ref_begun_ct (p:ByteArray) (all:Bool) (w:World):Ct Tryd.prog ref03_begun.id #[.string p,.bool all] w fun v w' =>
  v = .bool (if all then whole p else Scan.begun p)∧Chg (fun _=>False) w w':=by
 refine ref03_begun.ct fun R hR=>?_
 unfold ref03_begun.run ref03_begun.b1
 refine CALL_of (ref_Orders_ct w) ?_
 rintro _ w1 ⟨rfl,hw1⟩
 have hc1:Chg (fun _=>False) w w1:=by rw [←hw1];exact (Chg.refl _ _).alloc _
 have hcell:∀(i:Nat) (hi:i<7),w1.cell? ⟨w.heap.size,0+i,none⟩=some (.string (ordersR[i]'hi)):=by
  intro i hi
  rw [←hw1,new_cell _ _ _ rfl,Nat.zero_add,List.getElem?_toArray,List.getElem?_map,List.getElem?_eq_getElem (show i<ordersR.length from hi)]
  rfl
 clear hw1
 unfold ref03_begun.b4
 have hq:(if all then whole p else Scan.begun p)=ordersR.any fun o=>(o.toList == p.toList) || (!all && (decide (p.size<o.size) && ((o.extract 0 p.size).toList == p.toList))):=by
  rw [ordersR_any]
  cases all with
  | true=>simp only [if_true,whole,Bool.not_true,Bool.false_and,Bool.or_false];congr 1;funext o;exact BEq.comm
  | false=>simp only [Scan.begun,Bool.not_false,Bool.true_and,prefB_self];rfl
 rw [hq] at hR
 generalize hqq:(fun o:ByteArray=>(o.toList == p.toList) || (!all && (decide (p.size<o.size) && ((o.extract 0 p.size).toList == p.toList))))=q at hR
 refine ref03_begun.l6_intro _ _ _ _ _ _ (fun x w2=>∃k:Nat,x = .int .i64 k∧k≤7∧w1=w2∧(ordersR.take k).any q=false) (fun x _=>7-iv x) ⟨0,rfl,by omega,rfl,rfl⟩ ?_
 rintro _ _ ⟨k,rfl,hk,rfl,hno⟩ C hC
 unfold ref03_begun.b7
 simp [go_sem]
 refine SPL_intro (fun h=>?_) (fun h=>?_) <;> simp at h
 ·have hc:=hcell k (by omega)
  have hk7:k<ordersR.length:=by show k<7;omega
  generalize ho:ordersR[k]'(by show k<7;omega)=o at hc
  have hq1:∀b,b=q o→ref03_begun.b12 R C (.int .i64 k) (.bool b) w1:=by
   intro b hb
   unfold ref03_begun.b12
   refine SPL_intro (fun h1=>?_) (fun h1=>?_)
   ·refine hR _ _ ⟨?_,hc1⟩
    have:ordersR.any q=true:=List.any_eq_true.2 ⟨o,by rw [←ho];exact List.getElem_mem _,by rw [←hb];exact h1⟩
    rw [this]
   ·unfold ref03_begun.b9
    simp [go_sem,wrap_succ (show k<7 by omega) (show 7≤maxLen by decide)]
    refine hC _ _ ⟨k+1,rfl,by omega,rfl,?_⟩ (by simp [iv];omega)
    rw [List.take_succ_eq_append_getElem hk7,List.any_append,hno]
    simp only [List.any_cons,List.any_nil,Bool.or_false,Bool.false_or]
    rw [ho,←hb];exact h1
  unfold ref03_begun.b11
  have hk7':(k:Int)<7:=by omega
  rw [Nat.zero_add] at hc
  simp [go_sem,hc,hk7',show k<7 by omega]
  rw [←hqq] at hq1
  refine SPL_intro (fun h1=>?_) (fun h1=>?_)
  ·exact hq1 _ (by simp [h1])
  cases all with
  | true =>
   simp [go_sem]
   exact hq1 _ (by simp at h1;simp [h1])
  | false =>
   simp [go_sem,hc,hk7',show k<7 by omega]
   refine SPL_intro (fun h2=>?_) (fun h2=>?_) <;> simp at h2
   ·simp [go_sem,hc,hk7',show k<7 by omega,show p.size≤o.size by omega]
    exact hq1 _ (by simp at h1;simp [h1,h2])
   ·exact hq1 _ (by simp at h1;simp [h1];intro h3;omega)
 ·unfold ref03_begun.b3
  refine hR _ _ ⟨?_,hc1⟩
  rw [List.take_of_length_le (by show 7≤k;omega)] at hno
  rw [hno]
end Go.Proofs.YtckbgeedlobfaaaDoor

/-
  The document's answer: one word.
-/
namespace Go.Proofs.YtckbgeedlobfaaaDoor
open Go.Px Go.Px.Scan Go.RowKit

def wdV' (kd:Int) (t:ByteArray) (k:Int):Value := .agg #[.int .i64 kd,.string t,.int .i64 k]

def OneR (s:ByteArray) (i:Nat) (v:Value):Prop :=
 match oneS s i with
 | .bad k=>v = .tuple #[wdV' 0 ⟨#[]⟩ 0,.int .i64 0,.int .i64 k]
 | .word kd a e n=>v = .tuple #[wdV' kd (s.extract a e) i,.int .i64 n,.int .i64 (-1)]

theorem chg3 {w:World} {q:Nat} (a b c:Value):Chg (·=q) w (((w.setCell ⟨q,0,none⟩ a).setCell ⟨q,1,none⟩ b).setCell ⟨q,2,none⟩ c) :=
 (((Chg.refl (·=q) w).setCell (p:=⟨q,0,none⟩) (Or.inl rfl) _).setCell (p:=⟨q,1,none⟩) (Or.inl rfl) _).setCell (p:=⟨q,2,none⟩) (Or.inl rfl) _

theorem ref_One_ct {s:ByteArray} {i:Nat} (hi:i<s.size) (hs:s.size≤maxLen) (w:World):Ct Tryd.prog ref03_One.id #[.string s,.int .i64 i] w fun v w'=>OneR s i v∧Chg (fun _=>False) w w':=by
 refine ref03_One.ct fun R hR=>?_
 unfold ref03_One.run ref03_One.b1
 simp [go_sem,index_bt,hi,wrap_succ hi hs]
 generalize hw1:w.alloc (Obj.cells #[Value.int IntKind.i64 0,Value.string {data:=#[] },Value.int IntKind.i64 0] 46)=w1
 have hc1:Chg (fun _=>False) w w1:=by rw [←hw1];exact (Chg.refl _ _).alloc _
 have ht1:Tri w1 w.heap.size 0 ⟨#[]⟩ 0:=by rw [←hw1];exact ⟨new_cell _ _ _ rfl 0,new_cell _ _ _ rfl 1,new_cell _ _ _ rfl 2,new_frozen _ _ _ rfl 0,new_frozen _ _ _ rfl 1,new_frozen _ _ _ rfl 2⟩
 have hqw:w.heap.size=w.heap.size:=rfl
 generalize hq:w.heap.size=q at ht1 ⊢
 clear hw1 hqw
  -- each way out
 have out:∀{w2:World} {v:Value} {a b c:Value},Chg (fun _=>False) w w2→OneR s i v→R (.returned v) (((w2.setCell ⟨q,0,none⟩ a).setCell ⟨q,1,none⟩ b).setCell ⟨q,2,none⟩ c):=by
  intro w2 v a b c h2 hv
  exact hR _ _ ⟨hv,h2.trans' (chg3 a b c) (fun i hi e=>by omega)⟩
 have badR:∀{k},oneS s i = .bad k→OneR s i (.tuple #[wdV' 0 ⟨#[]⟩ 0,.int .i64 0,.int .i64 (k:Nat)]):=by
  intro k h;unfold OneR;rw [h]
 have wordR:∀{kd a e n:Nat},oneS s i = .word kd a e n→OneR s i (.tuple #[wdV' kd (s.extract a e) i,.int .i64 n,.int .i64 (-1)]):=by
  intro kd a e n h;unfold OneR;rw [h]
 obtain ⟨k1,hk1⟩:∃k1,k1=i+1:=⟨_,rfl⟩
 have hcast:((i:Int)+1)=(k1:Int):=by omega
 rw [hcast]
 have wrapk:IntKind.i64.wrap ((i:Int)+1)=(k1:Int):=by rw [wrap_succ hi hs];omega
 have sub16:∀k,i≤k→k≤s.size→IntKind.i64.wrap ((k:Int)-i)=((k-i:Nat):Int):=by
  intro k h1 h2;unfold maxLen at *;rw [IntWalk.i64_in _ (by omega)];omega
  -- a name
 have nm:signN (bt s i)=false→¬bt s i=37→¬bt s i=39→(letterN (bt s i) || decide (bt s i=95))=true →
   ref03_One.l13 R (.string s) (.int .i64 i) (.pointer (some ⟨q,0,none⟩)) (.int .i64 k1) w1:=by
  intro h0 h37 h39 hl
  have hone:oneS s i=(if runS innerN s i 16<s.size∧innerN (bt s (runS innerN s i 16))=true then .bad (runS innerN s i 16) else .word 1 i (runS innerN s i 16) (runS innerN s i 16)):=by
   unfold oneS
   rw [if_neg (by simp [h0]),if_neg h37,if_neg h39,if_pos hl]
  refine ref03_One.l13_intro _ _ _ _ _ _ (fun x w2=>∃k:Nat,x = .int .i64 k∧w1=w2∧i<k∧k≤i+16∧k≤s.size∧runS innerN s i 16=runS innerN s k (i+16-k)) (fun x _=>s.size-iv x) ⟨k1,rfl,rfl,by omega,by omega,by omega,?_⟩ ?_
  ·have e:runS innerN s i 16=if i<s.size && innerN (bt s i) then runS innerN s (i+1) 15 else i:=rfl
   rw [e,inner_of_letter hl,hk1]
   simp [hi]
  rintro _ _ ⟨k,rfl,rfl,hik,hk16,hks,hr⟩ C hC
  have fin:runS innerN s i 16=k→(¬(k<s.size∧innerN (bt s k)=true))→ref03_One.b11 R (.string s) (.int .i64 i) (.pointer (some ⟨q,0,none⟩)) (.int .i64 k) w1:=by
   intro he hno
   unfold ref03_One.b11
   simp [go_sem,ht1.c0,ht1.c1,ht1.c2,ht1.f0,ht1.f1,ht1.f2,World.cell?_setCell_other,hks,show i≤k by omega]
   exact out hc1 (wordR (kd:=1) (by rw [hone,he,if_neg hno]))
  have stop:(¬(k<s.size∧innerN (bt s k)=true))→runS innerN s i 16=k:=by
   intro hno
   rw [hr]
   cases hn:i+16-k with
   | zero=>rfl
   | succ n =>
    unfold runS
    rw [if_neg]
    intro h;simp at h;exact hno h
  unfold ref03_One.b16
  simp [go_sem]
  refine SPL_intro (fun h1=>?_) (fun h1=>?_) <;> simp at h1
  ·simp [go_sem,index_bt,h1]
   refine CALL_of (ref_inner_ct _ _) ?_
   rintro _ _ ⟨rfl,rfl⟩
   unfold ref03_One.b17
   refine SPL_intro (fun h2=>?_) (fun h2=>?_)
   ·unfold ref03_One.b15
    by_cases h16:k=i+16
    ·have h16':IntKind.i64.wrap ((k:Int)-i)=16:=by rw [sub16 k (by omega) hks];omega
     simp [go_sem,h16',ht1.c0,ht1.c1,ht1.c2,ht1.f0,ht1.f1,ht1.f2,World.cell?_setCell_other]
     have he:runS innerN s i 16=k:=by rw [hr,h16,Nat.sub_self];rfl
     exact out hc1 (badR (by rw [hone,he,if_pos ⟨h1,h2⟩]))
    ·have h16':(IntKind.i64.wrap ((k:Int)-i) == 16)=false:=by rw [sub16 k (by omega) hks];simp;omega
     simp [go_sem,h16',wrap_succ h1 hs]
     refine hC _ _ ⟨k+1,rfl,rfl,by omega,by omega,by omega,?_⟩ (by simp [iv];omega)
     rw [hr]
     obtain ⟨n,hn⟩:∃n,i+16-k=n+1:=⟨i+15-k,by omega⟩
     rw [hn,show i+16-(k+1)=n by omega]
     conv=>lhs;unfold runS
     rw [if_pos (by simp [h1,h2])]
   ·have hno:¬(k<s.size∧innerN (bt s k)=true):=fun h=>by rw [h.2] at h2;cases h2
    exact fin (stop hno) hno
  ·have hno:¬(k<s.size∧innerN (bt s k)=true):=fun h=>by omega
   unfold ref03_One.b17
   simp only [SPL_false]
   exact fin (stop hno) hno
  -- a quoted one
 have qt:signN (bt s i)=false→bt s i=39→ref03_One.l26 R (.string s) (.int .i64 i) (.pointer (some ⟨q,0,none⟩)) (.int .i64 k1) w1:=by
  intro h0 h39
  have hone:oneS s i=(if i+1<runS plainN s (i+1) 16∧runS plainN s (i+1) 16<s.size∧bt s (runS plainN s (i+1) 16)=39 then .word 2 (i+1) (runS plainN s (i+1) 16) (runS plainN s (i+1) 16+1) else .bad (runS plainN s (i+1) 16)):=by
   unfold oneS
   rw [if_neg (by simp [h0]),if_neg (by omega),if_pos h39]
  refine ref03_One.l26_intro _ _ _ _ _ _ (fun x w2=>∃k:Nat,x = .int .i64 k∧w1=w2∧i<k∧k≤i+17∧k≤s.size∧runS plainN s (i+1) 16=runS plainN s k (i+17-k)) (fun x _=>s.size-iv x) ⟨k1,rfl,rfl,by omega,by omega,by omega,?_⟩ ?_
  ·rw [hk1,show i+17-(i+1)=16 by omega]
  rintro _ _ ⟨k,rfl,rfl,hik,hk17,hks,hr⟩ C hC
  have stop:(¬(k<s.size∧plainN (bt s k)=true∧k<i+17))→runS plainN s (i+1) 16=k:=by
   intro hno
   rw [hr]
   cases hn:i+17-k with
   | zero=>rfl
   | succ n =>
    unfold runS
    rw [if_neg]
    intro h;simp at h;exact hno ⟨h.1,h.2,by omega⟩
  have bad:runS plainN s (i+1) 16=k→¬(i+1<k∧k<s.size∧bt s k=39)→ref03_One.b24 R (.string s) (.int .i64 i) (.pointer (some ⟨q,0,none⟩)) (.int .i64 k) (.bool true) w1:=by
   intro he hno
   unfold ref03_One.b24
   simp [go_sem,ht1.c0,ht1.c1,ht1.c2,ht1.f0,ht1.f1,ht1.f2,World.cell?_setCell_other]
   exact out hc1 (badR (by rw [hone,he,if_neg hno]))
  have good:runS plainN s (i+1) 16=k→(i+1<k∧k<s.size∧bt s k=39)→ref03_One.b24 R (.string s) (.int .i64 i) (.pointer (some ⟨q,0,none⟩)) (.int .i64 k) (.bool false) w1:=by
   intro he hyes
   unfold ref03_One.b24
   simp only [SPL_false]
   unfold ref03_One.b22
   have e1:(k1:Int)≤k:=by omega
   have hwr:=wrap_succ hyes.2.1 hs
   simp [go_sem,ht1.c0,ht1.c1,ht1.c2,ht1.f0,ht1.f1,ht1.f2,World.cell?_setCell_other,hks,wrapk,hwr,show k1≤k by omega]
   have e2:((k:Int)+1)=((k+1:Nat):Int):=by omega
   rw [e2]
   refine out hc1 (wordR (kd:=2) (a:=k1) (e:=k) (n:=k+1) ?_)
   rw [hone,he,if_pos hyes,hk1]
  have after:(¬(k<s.size∧plainN (bt s k)=true∧k<i+17))→ref03_One.b23 R (.string s) (.int .i64 i) (.pointer (some ⟨q,0,none⟩)) (.int .i64 k) w1:=by
   intro hno
   have he:=stop hno
   unfold ref03_One.b23
   simp [go_sem]
   refine SPL_intro (fun h1=>?_) (fun h1=>?_) <;> simp at h1
   ·exact bad he (fun h=>by omega)
   ·simp [go_sem,index_bt,h1]
    refine SPL_intro (fun h2=>?_) (fun h2=>?_) <;> simp at h2
    ·exact bad he (fun h=>by omega)
    ·simp [go_sem,wrapk]
     by_cases hkk:k=k1
     ·rw [show ((k:Int) == (k1:Int))=true by simp;omega]
      exact bad he (fun h=>by omega)
     ·rw [show ((k:Int) == (k1:Int))=false by simp;omega]
      exact good he ⟨by omega,h1,by omega⟩
  have no30:(¬(k<s.size∧plainN (bt s k)=true∧k<i+17))→ref03_One.b30 R C (.string s) (.int .i64 i) (.pointer (some ⟨q,0,none⟩)) (.int .i64 k) (.bool false) w1:=by
   intro hno
   unfold ref03_One.b30
   simp only [SPL_false]
   exact after hno
  unfold ref03_One.b29
  simp [go_sem]
  refine SPL_intro (fun h1=>?_) (fun h1=>?_) <;> simp at h1
  ·simp [go_sem,index_bt,h1]
   refine SPL_intro (fun h2=>?_) (fun h2=>?_) <;> simp at h2
   ·simp [go_sem,index_bt,h1]
    refine SPL_intro (fun h3=>?_) (fun h3=>?_) <;> simp at h3
    ·simp [go_sem,index_bt,h1]
     refine SPL_intro (fun h4=>?_) (fun h4=>?_) <;> simp at h4
     ·simp [go_sem,sub16 k (by omega) hks]
      by_cases h17:k-i≤16
      ·rw [show decide (((k-i:Nat):Int)≤16)=true by simp;omega]
       unfold ref03_One.b30
       simp only [SPL_true]
       unfold ref03_One.b28
       simp [go_sem,wrap_succ h1 hs]
       refine hC _ _ ⟨k+1,rfl,rfl,by omega,by omega,by omega,?_⟩ (by simp [iv];omega)
       rw [hr]
       obtain ⟨n,hn⟩:∃n,i+17-k=n+1:=⟨i+16-k,by omega⟩
       rw [hn,show i+17-(k+1)=n by omega]
       conv=>lhs;unfold runS
       rw [if_pos (by simp [h1,plainN];omega)]
      ·rw [show decide (((k-i:Nat):Int)≤16)=false by simp;omega]
       exact no30 (fun h=>by omega)
     ·exact no30 (fun h=>by have:=h.2.1;simp [plainN] at this;omega)
    ·exact no30 (fun h=>by have:=h.2.1;simp [plainN] at this;omega)
   ·exact no30 (fun h=>by have:=h.2.1;simp [plainN] at this;omega)
  ·exact no30 (fun h=>by omega)
  -- an order
 have od:signN (bt s i)=false→bt s i=37→ref03_One.l36 R (.string s) (.int .i64 i) (.pointer (some ⟨q,0,none⟩)) (.int .i64 k1) w1:=by
  intro h0 h37
  have hone:oneS s i=(if (ordS s i (i+1)).2 && whole (s.extract i (ordS s i (i+1)).1) then .word 3 i (ordS s i (i+1)).1 (ordS s i (i+1)).1 else .bad (ordS s i (i+1)).1):=by
   unfold oneS
   rw [if_neg (by simp [h0]),if_pos h37]
  refine ref03_One.l36_intro _ _ _ _ _ _ (fun x w2=>∃k:Nat,x = .int .i64 k∧Chg (fun _=>False) w1 w2∧i<k∧k≤s.size∧ordS s i k=ordS s i (i+1)) (fun x _=>s.size-iv x) ⟨k1,rfl,Chg.refl _ _,by omega,by omega,by rw [hk1]⟩ ?_
  rintro _ w2 ⟨k,rfl,hc2,hik,hks,hr⟩ C hC
  have stop:∀{w3},Chg (fun _=>False) w1 w3→¬(k<s.size∧letterN (bt s k)=true)→ref03_One.b34 R (.string s) (.int .i64 i) (.pointer (some ⟨q,0,none⟩)) (.int .i64 k) w3:=by
   intro w3 hc3 hno
   have he:ordS s i (i+1)=(k,true):=by rw [←hr];unfold ordS;rw [if_neg hno]
   rw [he] at hone
   unfold ref03_One.b34
   simp [go_sem,hks,show i≤k by omega]
   refine CALL_of (ref_begun_ct _ true _) ?_
   rintro _ w4 ⟨rfl,hc4⟩
   have ht4:=(ht1.chg hc3 id).chg hc4 id
   have hc5:=(hc1.trans hc3).trans hc4
   simp only [if_true]
   cases hw:whole (s.extract i k) with
   | true =>
    simp [go_sem,ht4.c0,ht4.c1,ht4.c2,ht4.f0,ht4.f1,ht4.f2,World.cell?_setCell_other,hks,show i≤k by omega]
    exact out hc5 (wordR (kd:=3) (by rw [hone];simp [hw]))
   | false =>
    simp [go_sem,ht4.c0,ht4.c1,ht4.c2,ht4.f0,ht4.f1,ht4.f2,World.cell?_setCell_other]
    exact out hc5 (badR (by rw [hone];simp [hw]))
  unfold ref03_One.b39
  simp [go_sem]
  refine SPL_intro (fun h1=>?_) (fun h1=>?_) <;> simp at h1
  ·simp [go_sem,index_bt,h1]
   refine CALL_of (ref_letter_ct _ _) ?_
   rintro _ _ ⟨rfl,rfl⟩
   unfold ref03_One.b40
   refine SPL_intro (fun h2=>?_) (fun h2=>?_)
   ·unfold ref03_One.b38
    have e1:(0:Int)≤k+1∧(k:Int)+1≤s.size:=by omega
    have e2:(i:Int)≤k+1:=by omega
    simp [go_sem,wrap_succ h1 hs,e1,e2]
    refine CALL_of (ref_begun_ct _ false _) ?_
    rintro _ w4 ⟨rfl,hc4⟩
    have ht4:=(ht1.chg hc2 id).chg hc4 id
    have hc5:=(hc1.trans hc2).trans hc4
    simp only [Bool.false_eq_true,if_false]
    cases hw:Scan.begun (s.extract i (k+1)) with
    | true =>
     simp [go_sem,wrap_succ h1 hs]
     refine hC _ _ ⟨k+1,rfl,hc2.trans hc4,by omega,by omega,?_⟩ (by simp [iv];omega)
     rw [←hr]
     conv=>rhs;unfold ordS
     rw [if_pos ⟨h1,h2⟩,if_pos hw]
    | false =>
     have he:ordS s i (i+1)=(k,false):=by rw [←hr];unfold ordS;rw [if_pos ⟨h1,h2⟩,if_neg (by simp [hw])]
     simp [go_sem,ht4.c0,ht4.c1,ht4.c2,ht4.f0,ht4.f1,ht4.f2,World.cell?_setCell_other]
     exact out hc5 (badR (by rw [hone,he];rfl))
   ·exact stop hc2 (fun h=>by rw [h.2] at h2;cases h2)
  ·unfold ref03_One.b40
   simp only [SPL_false]
   exact stop hc2 (fun h=>by omega)
 have rest:signN (bt s i)=false→ref03_One.b8 R (.string s) (.int .i64 i) (.pointer (some ⟨q,0,none⟩)) (.int .u8 (bt s i)) (.int .i64 k1) w1:=by
  intro h0
  have h18:(letterN (bt s i) || decide (bt s i=95))=false→ref03_One.b9 R (.string s) (.int .i64 i) (.pointer (some ⟨q,0,none⟩)) (.int .u8 (bt s i)) (.int .i64 k1) (.bool false) w1:=by
   intro hl
   unfold ref03_One.b9
   simp only [SPL_false]
   unfold ref03_One.b18
   simp [go_sem]
   unfold ref03_One.b19
   refine SPL_intro (fun h1=>?_) (fun h1=>?_) <;> simp at h1
   ·exact qt h0 (by omega)
   ·unfold ref03_One.b31
    simp [go_sem]
    unfold ref03_One.b32
    refine SPL_intro (fun h2=>?_) (fun h2=>?_) <;> simp at h2
    ·exact od h0 (by omega)
    ·unfold ref03_One.b41 ref03_One.b3
     simp [go_sem,ht1.c0,ht1.c1,ht1.c2,ht1.f0,ht1.f1,ht1.f2,World.cell?_setCell_other]
     refine out hc1 (badR ?_)
     unfold oneS
     rw [if_neg (by simp [h0]),if_neg (by omega),if_neg (by omega),if_neg (by simp [hl])]
  have hname:(letterN (bt s i) || decide (bt s i=95))=true→ref03_One.b9 R (.string s) (.int .i64 i) (.pointer (some ⟨q,0,none⟩)) (.int .u8 (bt s i)) (.int .i64 k1) (.bool true) w1:=by
   intro hl
   unfold ref03_One.b9
   simp only [SPL_true]
   have hne:¬bt s i=37∧¬bt s i=39:=by
    simp [letterN] at hl
    omega
   exact nm h0 hne.1 hne.2 hl
  unfold ref03_One.b8
  refine CALL_of (ref_letter_ct _ _) ?_
  rintro _ _ ⟨rfl,rfl⟩
  refine SPL_intro (fun h1=>?_) (fun h1=>?_)
  ·exact hname (by simp [h1])
  ·simp [go_sem]
   by_cases h95:bt s i=95
   ·rw [show (((bt s i:Nat):Int) == 95)=true by simp;omega]
    exact hname (by simp [h95])
   ·rw [show (((bt s i:Nat):Int) == 95)=false by simp;omega]
    exact h18 (by simp [h1,h95])
 have first:∀bl,bl=signN (bt s i)→ref03_One.b6 R (.string s) (.int .i64 i) (.pointer (some ⟨q,0,none⟩)) (.int .u8 (bt s i)) (.int .i64 k1) (.bool bl) w1:=by
  intro bl hbl
  unfold ref03_One.b6
  refine SPL_intro (fun h1=>?_) (fun h1=>?_) <;> rw [hbl] at h1
  ·unfold ref03_One.b7
   simp [go_sem,ht1.c0,ht1.c1,ht1.c2,ht1.f0,ht1.f1,ht1.f2,World.cell?_setCell_other,show i≤k1 by omega,show k1≤s.size by omega]
   exact out hc1 (wordR (kd:=4) (by unfold oneS;rw [if_pos h1,hk1]))
  ·exact rest h1
 unfold ref03_One.b5
 simp [go_sem]
 refine SPL_intro (fun h1=>?_) (fun h1=>?_) <;> simp at h1
 ·exact first _ (by simp [signN];omega)
 simp [go_sem]
 refine SPL_intro (fun h2=>?_) (fun h2=>?_) <;> simp at h2
 ·exact first _ (by simp [signN];omega)
 simp [go_sem]
 exact first _ (by rw [Bool.eq_iff_iff];simp [signN];omega)
end Go.Proofs.YtckbgeedlobfaaaDoor

/-
  The document's answer: all words.
-/
namespace Go.Proofs.YtckbgeedlobfaaaDoor
open Go.Px Go.Px.Scan Go.RowKit

theorem info42:(Tryd.prog.info? 46).map (fun i=>(i.zero,i.size,i.bytes))=some (some (.agg #[.int .i64 0,.string ⟨#[]⟩,.int .i64 0]),3,32):=by kernel_rfl

theorem ref_All_ct {s:ByteArray} (hs:s.size≤maxLen) (w:World):Ct Tryd.prog ref03_All.id #[.string s] w fun v w' =>
  (∃sl,v = .tuple #[sl,badV (wordsS s).2]∧w'.ownsRow w.heap.size 46 3 sl (wordsS s).1.length ((wordsS s).1.flatMap encW))∧Chg (fun _=>False) w w':=by
 refine ref03_All.ct fun R hR=>?_
 unfold ref03_All.run ref03_All.b1
 simp [go_sem]
 refine SPL_intro (fun h=>?_) (fun h=>?_) <;> simp at h
 ·have h':8192<s.size:=by omega
  refine hR _ _ ⟨⟨.slice none 0 0,?_,?_⟩,Chg.refl _ _⟩
  ·unfold wordsS;rw [if_pos h'];rfl
  ·unfold wordsS;rw [if_pos h'];exact World.ownsRow_nil _ _ _ _
 ·have h':¬8192<s.size:=by omega
  have hws:wordsS s=allS s 0:=by unfold wordsS;rw [if_neg h']
  unfold ref03_All.b4
  refine CALL_of (ref_Skip_ct 0 (by omega) hs w) ?_
  rintro _ _ ⟨rfl,rfl⟩
  refine ref03_All.l6_intro _ _ _ _ _ (fun x y w1=>∃(j:Nat) (pre:List Wd),y = .int .i64 (skipS s false j:Nat)∧j≤s.size∧w1.ownsRow w.heap.size 46 3 x pre.length (pre.flatMap encW)∧Chg (fun _=>False) w w1∧pre++(allS s j).1=(allS s 0).1∧(allS s j).2=(allS s 0).2)
   (fun _ y _=>s.size-iv y) ⟨0,[],rfl,by omega,World.ownsRow_nil _ _ _ _,Chg.refl _ _,rfl,rfl⟩ ?_
  rintro x _ w1 ⟨j,pre,rfl,hj,ho,hc1,ha1,ha2⟩ C hC
  have hsl:=skip_le s false j hj
  unfold ref03_All.b7
  generalize hap:Builtin.append_=ap
  simp [go_sem]
  refine SPL_intro (fun h1=>?_) (fun h1=>?_) <;> simp at h1
  ·refine CALL_of (ref_One_ct h1 hs w1) ?_
   rintro v w2 ⟨hv,hc2⟩
   have ho2:=ownsRow_chg ho hc2 (fun _ _=>id)
   have hc3:=hc1.trans hc2
   unfold OneR at hv
   cases h4:oneS s (skipS s false j) with
   | bad n =>
    rw [h4] at hv
    subst hv
    rw [all_bad h1 h4] at ha1 ha2
    unfold wdV'
    simp [go_sem]
    refine hR _ _ ⟨⟨x,by rw [hws,←ha2];rfl,?_⟩,hc3.alloc _⟩
    rw [hws,←ha1]
    simpa using ownsRow_chg ho2 ((Chg.refl (fun _=>False) _).alloc _) (fun _ _=>id)
   | word kd a e n =>
    rw [h4] at hv
    subst hv
    rw [all_word h1 h4] at ha1 ha2
    have hone:=one_word h1 h4
    unfold wdV'
    simp [go_sem]
    rw [←hap]
    clear hap ap
    obtain ⟨i0,hi,hz0,hz1,hz2⟩:=info_parts info42
    generalize hw3:(w2.alloc (Obj.cells #[Value.int IntKind.i64 kd,Value.string (s.extract a e),Value.int IntKind.i64 (skipS s false j)] 46)).alloc _=w3
    have hlen:=all_len s 0 (Nat.zero_le _)
    rw [←ha1] at hlen
    simp only [List.length_append,List.length_cons] at hlen
    have hn:∀j' u,(encW ((kd:Int),s.extract a e,(skipS s false j:Int)))[j']?=some u→w3.cell? ((⟨w2.heap.size+1,0,none⟩:Addr).add j')=some u:=by
     rw [←hw3]
     exact alloc_cells (w2.alloc _) (encW ((kd:Int),s.extract a e,(skipS s false j:Int))) 46 (by simp)
    have hc23:Chg (fun _=>False) w2 w3:=by rw [←hw3];exact ((Chg.refl _ _).alloc _).alloc _
    have ho3:=ownsRow_chg ho2 hc23 (fun _ _=>id)
    have hs3:w3.heap.size=w2.heap.size+2:=by rw [←hw3];simp
    clear hw3
    have hw12:=hc1.size
    have hw22:=hc2.size
    refine append_own 41 41 46 Tryd.underlying41 hi hz0 hz1 hz2 rfl (by omega) ho3 rfl hn ?_ (by unfold maxLen;omega) (by unfold maxBytes;omega) (by omega) ?_
    ·intro u hu
     simp [encW] at hu
     rcases hu with rfl | rfl | rfl <;> rfl
    intro g c3 w4 ho4 hg4 hgb
    have hc34:Chg (fun i=>w.heap.size≤i) w3 w4:=grown_chg hg4 fun k hk=>(ownsRow_block ho3 hk).1
    refine CALL_of (ref_Skip_ct n hone.2.1 hs w4) ?_
    rintro _ _ ⟨rfl,rfl⟩
    refine hC _ _ _ ⟨n,pre++[((kd:Int),s.extract a e,(skipS s false j:Int))],rfl,hone.2.1,?_,(hc3.trans hc23).trans' hc34 (fun i hi h=>by omega),?_,?_⟩ ?_
    ·simpa using ho4
    ·rw [←ha1];simp
    ·rw [←ha2]
    ·have:=skip_ge s false n
     simp [iv];omega
  ·unfold ref03_All.b3
   rw [all_end (by omega)] at ha1 ha2
   refine hR _ _ ⟨⟨x,by rw [hws,←ha2];rfl,?_⟩,hc1⟩
   rw [hws,←ha1]
   simpa using ho
end Go.Proofs.YtckbgeedlobfaaaDoor

/-
  The document's text: within.
-/
namespace Go.Px.Spec
open Go.Px Go.Px.Scan
end Go.Px.Spec
namespace Go.Proofs.YtckbgeedlobfaaaDoor
open Go.Px Go.Px.Scan Go.Px.Spec Go.RowKit
attribute [-go_sem] Builtin.append_

section
variable {F:Nat→Prop} {w w1:World} {R:EP} {tb g:Nat} {x:Rx} {D:TD} {done:List RowS} {r:RowS}

end
end Go.Proofs.YtckbgeedlobfaaaDoor
