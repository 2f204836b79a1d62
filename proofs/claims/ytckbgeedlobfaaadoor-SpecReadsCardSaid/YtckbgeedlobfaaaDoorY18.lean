/-
  Texts of this claim: Rk1, Rk2, Rk3, Rk4, Rf1, Rf2, Rf3, Rk5.
-/
import Derived.Test.YtckbgeedlobfaaaDoorY17
import Derived.Test.YtckbgeedlobfaaaDoorY09
import Derived.Test.YtckbgeedlobfaaaDoorY12
import Derived.Test.YtckbgeedlobfaaaDoorY02
set_option maxHeartbeats 1000000
set_option linter.unusedSimpArgs false
set_option linter.unusedVariables false
set_option maxRecDepth 100000
/-
  The document's text: its pieces; term, has.
-/
namespace Go.Px.Spec
open Go.Px Go.Px.Scan
/-- What the document's text holds. -/
structure Rx where
 ph:Nat
 sd:Nat
 ts:List (ByteArray×Int)
 lv:List Int
 rows:List RowS
 rl:ByteArray
 ls:List ByteArray
 st:ByteArray
def rxOf (m:Mc):Rx:=⟨m.ph,sideL m.heads,tmOf m.heads,lvOf m.heads,m.rows,m.rule,dd m.lefts,m.start⟩
/-- The words of the last row. -/
def lw (rows:List RowS):List Wd:=(rows.getLast?.map (·.words)).getD []
/-- A terminal's place; -1: it did not come. -/
def posI (ts:List (ByteArray×Int)) (t:ByteArray):Int:=if posN (ts.map (·.1)) t<ts.length then posN (ts.map (·.1)) t else -1
end Go.Px.Spec
namespace Go.Proofs.YtckbgeedlobfaaaDoor
open Go.Px Go.Px.Scan Go.Px.Spec Go.RowKit
attribute [-go_sem] Builtin.append_

structure TD where
 At:Option Addr
 ct:Nat
 Al:Option Addr
 cl:Nat
 Ar:Option Addr
 cr:Nat
 us:List Value
 Ax:Option Addr
 cx:Nat
 Af:Option Addr
 cf:Nat
def encRf (r:RowS×Value):List Value:=[.string r.1.left,r.2,.int .i64 r.1.said,.string r.1.by_]
def txBox (x:Rx) (D:TD):List Value:=[.int .i64 x.ph,.int .i64 x.sd,.slice D.At x.ts.length D.ct,.slice D.Al x.lv.length D.cl,.slice D.Ar x.rows.length D.cr,.string x.rl,.slice D.Af x.ls.length D.cf,.string x.st]
/-- The pieces of the document's text. -/
def txL (tb:Nat) (x:Rx) (D:TD):List Ch :=
 [boxC tb 69 (txBox x D),rowC 39 2 D.At x.ts.length D.ct (x.ts.flatMap termE),rowC 3 1 D.Al x.lv.length D.cl (x.lv.map (Value.int .i64 ·)),
   rowC 124 4 D.Ar x.rows.length D.cr ((x.rows.zip (D.us++[.slice D.Ax (lw x.rows).length D.cx])).flatMap encRf),
   rowsC 46 3 D.us (x.rows.dropLast.map fun r=>r.words.flatMap encW),rowC 46 3 D.Ax (lw x.rows).length D.cx ((lw x.rows).flatMap encW),
   rowC 9 1 D.Af x.ls.length D.cf (x.ls.map Value.string)]

section
variable {G:Nat→Prop} {W w:World} {L:List Ch} {tb:Nat} {x:Rx} {D:TD}

theorem ts_at (s:St G W w L) {ts:List (ByteArray×Int)} {A:Option Addr} {c n:Nat} (k:Nat) (hk:L[k]?=some (rowC 39 2 A n c (ts.flatMap termE))) {i:Nat} (hi:i<ts.length) :
  ∃g,A=some ⟨g,0,none⟩∧w.cell? ⟨g,i*2,none⟩=some (.string ts[i].1)∧w.cell? ⟨g,i*2+1,none⟩=some (.int .i64 ts[i].2)∧w.frozen? ⟨g,i*2+1,none⟩=false:=by
 obtain ⟨F,ho,_⟩:=s.get hk
 obtain ⟨g,hg,hc,hf,_⟩:=row_elem ho (fun _ _=>rfl) (by omega) (List.getElem?_eq_getElem hi)
 exact ⟨g,hg,hc 0 _ rfl,hc 1 _ rfl,hf _⟩

theorem take_no {l:List ByteArray} {t:ByteArray} {i:Nat} (hi:i<l.length) (h:t∉l.take i) (ht:l[i]=t):posN l t=i:=by
 induction l generalizing i with
 | nil=>simp at hi
 | cons x l ih =>
  cases i with
  | zero=>simp at ht;simp [posN,ht]
  | succ i =>
   rw [List.take_succ_cons] at h
   simp at h ht
   rw [posN,if_neg (fun e=>h.1 e.symm),ih (by simpa using hi) h.2 ht]

theorem term_ct (s:St G W w L) {cs:List Value} {A:Option Addr} {c:Nat} {ts:List (ByteArray×Int)} {v0 v1:Value} (k0:Nat) (h0:L[k0]?=some (boxC tb 69 (v0::v1 :: .slice A ts.length c::cs))) (k1:Nat) (h1:L[k1]?=some (rowC 39 2 A ts.length c (ts.flatMap termE))) (hts:ts.length≤100000) (t:ByteArray) :
  Ct Tryd.prog ref04_Text_term.id #[.pointer (some ⟨tb,0,none⟩),.string t] w fun v w'=>v = .int .i64 (posI ts t)∧Chg noB w w':=by
 refine ref04_Text_term.ct fun R hR=>?_
 unfold ref04_Text_term.run
 simp -dsimp [go_sem]
 refine ref04_Text_term.l6_intro _ _ _ _ _ (fun y w'=>∃i:Nat,y = .int .i64 i∧i≤ts.length∧Chg noB w w'∧t∉(ts.map (·.1)).take i) (fun y _=>ts.length-iv y) ⟨0,rfl,by omega,Chg.refl _ _,by simp⟩ ?_
 rintro _ w1 ⟨i,rfl,hi,hc,hno⟩ C6 hC
 have s1:=s.old hc
 have yb:=(s1.box k0 h0).1
 simp [boxAt] at yb
 simp -dsimp [go_sem,yb]
 refine SPL_intro (fun p1=>?_) (fun p1=>?_) <;> simp at p1
 ·obtain ⟨g,rfl,c0,c1,_⟩:=ts_at s1 k1 h1 p1
  have wi:IntKind.i64.wrap ((i:Int)+1)=(i:Int)+1:=IntWalk.i64_in _ (by omega)
  simp -dsimp [go_sem,yb,p1,Nat.not_le.2 p1,c0]
  refine SPL_intro (fun p2=>?_) (fun p2=>?_)
  ·have e:ts[i].1=t:=by simpa [toList_inj] using p2
   have hp:=take_no (l:=ts.map (·.1)) (i:=i) (by simpa using p1) hno (by simpa using e)
   refine hR _ _ ⟨?_,hc⟩
   unfold posI
   rw [hp,if_pos p1]
  ·have e:ts[i].1≠t:=fun e=>by subst e;simp at p2
   simp -dsimp [go_sem,wi]
   refine hC _ _ ⟨i+1,by simp,p1,hc,?_⟩ (by simp [iv];omega)
   rw [List.take_succ_eq_append_getElem (by simpa using p1)]
   intro hm
   rcases List.mem_append.1 hm with hm | hm
   ·exact hno hm
   ·simp at hm;exact e hm.symm
 ·have hia:i=ts.length:=by omega
  rw [hia,List.take_of_length_le (by simp)] at hno
  unfold ref04_Text_term.b3
  refine hR _ _ ⟨?_,hc⟩
  unfold posI
  rw [if_neg (by rw [posN_no hno];simp)]

theorem has_ct (s:St G W w L) {A:Option Addr} {c:Nat} {l:List ByteArray} (k1:Nat) (h1:L[k1]?=some (rowC 9 1 A l.length c (l.map Value.string))) (hl:l.length≤100000) (t:ByteArray) :
  Ct Tryd.prog ref04_has.id #[.slice A l.length c,.string t] w fun v w'=>v = .bool (hasB l t)∧Chg noB w w':=by
 refine ref04_has.ct fun R hR=>?_
 unfold ref04_has.run
 simp -dsimp [go_sem]
 refine ref04_has.l6_intro _ _ _ _ _ (fun y w'=>∃i:Nat,y = .int .i64 i∧i≤l.length∧Chg noB w w'∧t∉l.take i) (fun y _=>l.length-iv y) ⟨0,rfl,by omega,Chg.refl _ _,by simp⟩ ?_
 rintro _ w1 ⟨i,rfl,hi,hc,hno⟩ C6 hC
 have s1:=s.old hc
 simp -dsimp [go_sem]
 refine SPL_intro (fun p1=>?_) (fun p1=>?_) <;> simp at p1
 ·obtain ⟨g,rfl,c0,_⟩:=s1.rowAt k1 h1 (j:=i) (by simpa using p1)
  simp only [List.getElem_map] at c0
  have wi:IntKind.i64.wrap ((i:Int)+1)=(i:Int)+1:=IntWalk.i64_in _ (by omega)
  simp -dsimp [go_sem,p1,Nat.not_le.2 p1,c0]
  refine SPL_intro (fun p2=>?_) (fun p2=>?_)
  ·have e:l[i]=t:=by simpa [toList_inj] using p2
   refine hR _ _ ⟨?_,hc⟩
   rw [hasB_iff.2 (by rw [←e];exact List.getElem_mem p1)]
  ·have e:l[i]≠t:=fun e=>by subst e;simp at p2
   simp -dsimp [go_sem,wi]
   refine hC _ _ ⟨i+1,by simp,p1,hc,?_⟩ (by simp [iv];omega)
   rw [List.take_succ_eq_append_getElem p1]
   intro hm
   rcases List.mem_append.1 hm with hm | hm
   ·exact hno hm
   ·simp at hm;exact e hm.symm
 ·have hia:i=l.length:=by omega
  rw [hia,List.take_length] at hno
  unfold ref04_has.b3
  refine hR _ _ ⟨?_,hc⟩
  cases hb:hasB l t with
  | false=>rfl
  | true=>exact absurd (hasB_iff.1 hb) hno
end
end Go.Proofs.YtckbgeedlobfaaaDoor

/-
  The document's text: header.
-/
namespace Go.Px.Spec
open Go.Px Go.Px.Scan
/-- A header's order. -/
def hdX (x:Rx) (d:Nat):Rx:={x with ph:=1,sd:=d,lv:=if 0<d then x.lv++[(d:Int)] else x.lv }
def headX (x:Rx) (t:ByteArray):Option Rx :=
 match sideOf t with
 | some d=>some (hdX x d)
 | none=>if t=kStart∧x.st=noT then some {x with ph:=3 } else none
/-- Bounds. -/
structure XB (x:Rx):Prop where
 ts:x.ts.length≤100000
 lv:x.lv.length≤100000
 rows:x.rows.length≤100000
 lw:(lw x.rows).length≤100000
 ls:x.ls.length≤100000
end Go.Px.Spec
namespace Go.Proofs.YtckbgeedlobfaaaDoor
open Go.Px Go.Px.Scan Go.Px.Spec Go.RowKit
attribute [-go_sem] Builtin.append_ ref04_Text_header.b2 ref04_Text_header.b3 ref04_Text_header.b1_1 ref04_Text_header.b1_2 ref04_Text_header.b1_3 ref04_Text_header.b1_4 ref04_Text_header.b1_5 ref04_Text_header.b1_6 ref04_Text_header.b1_7 ref04_Text_header.b1_8

/-- How a step of the document's ends: it can stand there, or it can't. -/
def XEnd (F:Nat→Prop) (w:World) (tb:Nat) (o:Option Rx) (v:Value) (w':World):Prop :=
 match o with
 | some x'=>v = .bool true∧∃D',St F w w' (txL tb x' D')
 | none=>v = .bool false∧∃x' D',St F w w' (txL tb x' D')

theorem new46 {w:World} (x:Wd):Tri (w.alloc (.cells #[.int .i64 x.1,.string x.2.1,.int .i64 x.2.2] 46)) w.heap.size x.1 x.2.1 x.2.2 :=
 ⟨new_cell _ _ _ rfl 0,new_cell _ _ _ rfl 1,new_cell _ _ _ rfl 2,new_frozen _ _ _ rfl 0,new_frozen _ _ _ rfl 1,new_frozen _ _ _ rfl 2⟩

section
variable {F:Nat→Prop} {w w1:World} {R:EP} {tb:Nat} {x:Rx} {D:TD}

theorem header_b2 {d:Nat} (hb:XB x) (s:St F w w1 (txL tb {x with sd:=d } D)) (hR:∀w' D',St F w w' (txL tb (hdX x d) D')→R (.returned (.bool true)) w'):ref04_Text_header.b2 R (.pointer (some ⟨tb,0,none⟩)) w1:=by
 have h3:∀w' D',St F w w' (txL tb {hdX x d with ph:=x.ph } D')→ref04_Text_header.b3 R (.pointer (some ⟨tb,0,none⟩)) w':=fun w' D' s'=>by
  have f0:=(s'.box 0 rfl).2.1 0
  have y0:=(s'.box 0 rfl).1
  simp [boxAt,txBox] at y0
  unfold ref04_Text_header.b3
  simp -dsimp [go_sem,y0,f0]
  exact hR _ D' (s'.set 0 rfl 0 (.int .i64 1))
 have y:=(s.box 0 rfl).1
 simp [boxAt,txBox] at y
 unfold ref04_Text_header.b2
 simp -dsimp [go_sem,y]
 refine SPL_intro (fun h=>?_) (fun h=>?_) <;> simp at h
 ·have hl:=hb.lv
  obtain ⟨wa,hwa⟩:∃wa,w1.alloc (.cells #[.int .i64 d] 3)=wa:=⟨_,rfl⟩
  have sa:=s.old (by rw [←hwa];exact (Chg.refl noB w1).alloc _:Chg noB w1 wa)
  have ya:=(sa.box 0 rfl).1
  simp [boxAt,txBox] at ya
  unfold ref04_Text_header.b2_1
  generalize hap:Builtin.append_=ap
  simp -dsimp [go_sem,y,hwa,ya]
  rw [←hap,←hwa]
  refine s.append1d 2 rfl uInts iInt rfl (by omega) (news:=[.int .i64 d]) rfl (by simp [Value.oneCell']) (show x.lv.length+1≤_ by unfold maxLen;omega) (show (x.lv.length+1)*8≤_ by unfold maxBytes;omega) ?_
  intro g cap w3 s3
  have y3:=(s3.box 0 rfl).1
  have f3:=(s3.box 0 rfl).2.1 3
  simp [boxAt,txBox] at y3
  simp -dsimp [go_sem,y3,f3]
  refine h3 _ {D with Al:=some ⟨g,0,none⟩,cl:=cap } ?_
  have s4:=s3.set 0 rfl 3 (.slice (some ⟨g,0,none⟩) (x.lv.length+1) cap)
  simpa [txL,txBox,hdX,h] using s4
 ·have hd0:¬0<d:=by omega
  refine h3 _ D ?_
  simpa [hdX,hd0] using s

theorem eqL {t:ByteArray} {l:List UInt8} (h:t.toList=l):t=⟨l.toArray⟩:=by
 rw [ByteArray.toList_eq] at h
 cases t with
 | mk d=>simp at h;rw [←h]
theorem toL (l:Array UInt8):(ByteArray.mk l).toList=l.toList:=ByteArray.toList_eq ⟨l⟩

theorem header_ct' {k a:Int} {t:ByteArray} (hb:XB x) (s:St F w w (txL tb x D)):Ct Tryd.prog ref04_Text_header.id #[.pointer (some ⟨tb,0,none⟩),.agg #[.int .i64 k,.string t,.int .i64 a]] w (XEnd F w tb (headX x t)):=by
 refine ref04_Text_header.ct fun R hR=>?_
 have hyes:∀d,sideOf t=some d→∀w' D',St F w w' (txL tb (hdX x d) D')→R (.returned (.bool true)) w':=fun d hd w' D' s'=>hR _ _ (by unfold XEnd headX;rw [hd];exact ⟨rfl,D',s'⟩)
 unfold ref04_Text_header.run
 simp -dsimp [go_sem]
 have hc1:Chg noB w (w.alloc (.cells #[.int .i64 k,.string t,.int .i64 a] 46)):=(Chg.refl noB w).alloc _
 have s1:=s.old hc1
 generalize w.alloc (.cells #[.int .i64 k,.string t,.int .i64 a] 46)=w1 at s1 hc1 ⊢
 have y1:=(s1.box 0 rfl).1
 simp [boxAt,txBox] at y1
 have f1:=(s1.box 0 rfl).2.1 1
 have side:∀(d:Nat),sideOf t=some d→ref04_Text_header.b2 R (.pointer (some ⟨tb,0,none⟩)) (w1.setCell ⟨tb,1,none⟩ (.int .i64 d)):=fun d hd=>header_b2 hb (s1.set 0 rfl 1 (.int .i64 d)) (hyes d hd)
 refine SPL_intro (fun h=>?_) (fun h=>?_)
 ·have e:t=kToken:=eqL (by simpa using h)
  have:=side 0 (by unfold sideOf;rw [if_pos e])
  unfold ref04_Text_header.b1_1
  simp -dsimp [go_sem,y1,f1]
  exact this
 have n1:t≠kToken:=fun e=>by subst e;simp [kToken,toL] at h
 unfold ref04_Text_header.b1_8
 simp -dsimp [go_sem]
 clear h
 refine SPL_intro (fun h=>?_) (fun h=>?_)
 ·have e:t=kLeft:=eqL (by simpa using h)
  have:=side 1 (by unfold sideOf;rw [if_neg n1,if_pos e])
  unfold ref04_Text_header.b1_2
  simp -dsimp [go_sem,y1,f1]
  exact this
 have n2:t≠kLeft:=fun e=>by subst e;simp [kLeft,toL] at h
 clear h
 simp -dsimp [go_sem]
 refine SPL_intro (fun h=>?_) (fun h=>?_)
 ·have e:t=kRight:=eqL (by simpa using h)
  have:=side 2 (by unfold sideOf;rw [if_neg n1,if_neg n2,if_pos e])
  unfold ref04_Text_header.b1_3
  simp -dsimp [go_sem,y1,f1]
  exact this
 have n3:t≠kRight:=fun e=>by subst e;simp [kRight,toL] at h
 clear h
 unfold ref04_Text_header.b1_7
 simp -dsimp [go_sem]
 refine SPL_intro (fun h=>?_) (fun h=>?_)
 ·have e:t=kNon:=eqL (by simpa using h)
  have:=side 3 (by unfold sideOf;rw [if_neg n1,if_neg n2,if_neg n3,if_pos e])
  unfold ref04_Text_header.b1_4
  simp -dsimp [go_sem,y1,f1]
  exact this
 have n4:t≠kNon:=fun e=>by subst e;simp [kNon,toL] at h
 clear h
 have hs0:sideOf t=none:=by unfold sideOf;rw [if_neg n1,if_neg n2,if_neg n3,if_neg n4]
 simp -dsimp [go_sem]
 refine SPL_intro (fun h=>?_) (fun h=>?_)
 ·have e:t=kStart:=eqL (by simpa using h)
  clear h
  have f0:=(s1.box 0 rfl).2.1 0
  unfold ref04_Text_header.b1_6
  simp -dsimp [go_sem,y1]
  refine SPL_intro (fun h=>?_) (fun h=>?_) <;> simp at h
  ·refine hR _ _ ?_
   have:x.st≠noT:=fun e=>h (noT_list.2 e)
   have hX:headX x t=none:=by unfold headX;rw [hs0];exact if_neg fun h2=>this h2.2
   rw [hX];exact ⟨rfl,x,D,s1⟩
  ·unfold ref04_Text_header.b1_5
   simp -dsimp [go_sem,y1,f0]
   refine hR _ _ ?_
   have h':x.st=noT:=noT_list.1 h
   have hX:headX x t=some {x with ph:=3 }:=by unfold headX;rw [hs0];exact if_pos ⟨e,h'⟩
   rw [hX]
   exact ⟨rfl,D,s1.set 0 rfl 0 (.int .i64 3)⟩
 ·have e:t≠kStart:=fun e=>by subst e;simp [kStart,toL] at h
  refine hR _ _ ?_
  have hX:headX x t=none:=by unfold headX;rw [hs0];exact if_neg fun h2=>e h2.1
  rw [hX];exact ⟨rfl,x,D,s1⟩
end
end Go.Proofs.YtckbgeedlobfaaaDoor

/-
  The document's text: listed.
-/
namespace Go.Px.Spec
open Go.Px Go.Px.Scan
/-- A terminal of a header. -/
def listX (x:Rx) (t:ByteArray):Option Rx :=
 if knOf (lvT x.ts t)=2∨(x.sd=0∧0<knOf (lvT x.ts t)) then none
 else some {x with ph:=2,ts:=putT x.ts t (if 0<x.sd then x.lv.length else 0) }
theorem posI_neg {ts:List (ByteArray×Int)} {t:ByteArray}:posI ts t<0↔lvT ts t=none:=by
 unfold posI
 rw [lvT_none,←posN_iff,List.length_map]
 split <;> omega
theorem posI_some {ts:List (ByteArray×Int)} {t:ByteArray} {n:Int} (h:lvT ts t=some n):∃i,∃h:i<ts.length,posI ts t=(i:Int)∧posN (ts.map (·.1)) t=i∧ts[i].2=n:=by
 unfold lvT at h
 by_cases hl:posN (ts.map (·.1)) t<ts.length
 ·rw [List.getElem?_eq_getElem hl] at h
  injection h with h
  exact ⟨_,hl,by unfold posI;rw [if_pos hl],rfl,h⟩
 ·rw [List.getElem?_eq_none (by omega)] at h;cases h
end Go.Px.Spec
namespace Go.Proofs.YtckbgeedlobfaaaDoor
open Go.Px Go.Px.Scan Go.Px.Spec Go.RowKit
attribute [-go_sem] Builtin.append_ ref04_Text_listed.b3 ref04_Text_listed.b3_1 ref04_Text_listed.b4 ref04_Text_listed.b4_1 ref04_Text_listed.b5 ref04_Text_listed.b6 ref04_Text_listed.b6_1 ref04_Text_listed.b6_2 ref04_Text_listed.b6_3 ref04_Text_listed.b7

section
variable {F:Nat→Prop} {w w1:World} {R:EP} {tb:Nat} {x:Rx} {D:TD}

theorem flat_set {α:Type} {enc:α→List Value} {size:Nat} (f:α→α) (j:Nat) (u:Value) (hj:j<size):∀(l:List α) (i:Nat),(∀x∈l,(enc x).length=size)→(∀x,l[i]?=some x→enc (f x)=(enc x).set j u)→i<l.length→(l.flatMap enc).set (i*size+j) u=(l.modify i f).flatMap enc
 | [],_,_,_,h=>by simp at h
 | x::l,0,hs,hf,_=>by
  rw [List.flatMap_cons,Nat.zero_mul,Nat.zero_add,List.set_append_left _ _ (by rw [hs x (by simp)];exact hj),List.modify_zero_cons,List.flatMap_cons,hf x rfl]
 | x::l,i+1,hs,hf,h=>by
  rw [List.flatMap_cons,List.set_append_right _ _ (by rw [hs x (by simp),Nat.succ_mul];omega),hs x (by simp),List.modify_succ_cons,List.flatMap_cons,←flat_set f j u hj l i (fun y hy=>hs y (by simp [hy])) (fun y hy=>hf y (by simpa using hy)) (by simpa using h)]
  congr 2
  rw [Nat.succ_mul];omega

theorem uTms:Tryd.prog.underlying 23=some (.slice 39):=Tryd.underlying23

/-- The level is set, where there is one. -/
theorem listed_b4 {i:Nat} {ts:List (ByteArray×Int)} (hi:i<ts.length) (hls:x.lv.length≤100000) (s:St F w w1 (txL tb {x with ts:=ts } D))
  (hR:∀w' D',St F w w' (txL tb {x with ph:=2,ts:=if x.sd=0 then ts else ts.modify i fun y=>(y.1,(x.lv.length:Int)) } D')→R (.returned (.bool true)) w') :
  ref04_Text_listed.b4 R (.pointer (some ⟨tb,0,none⟩)) (.int .i64 i) w1:=by
 have h5:∀ts' w' D',(ts'=if x.sd=0 then ts else ts.modify i fun y=>(y.1,(x.lv.length:Int)))→St F w w' (txL tb {x with ts:=ts' } D')→ref04_Text_listed.b5 R (.pointer (some ⟨tb,0,none⟩)) w':=fun ts' w' D' he s'=>by
  have f0:=(s'.box 0 rfl).2.1 0
  have y0:=(s'.box 0 rfl).1
  simp [boxAt,txBox] at y0
  unfold ref04_Text_listed.b5
  simp -dsimp [go_sem,y0,f0]
  refine hR _ D' ?_
  rw [←he]
  exact s'.set 0 rfl 0 (.int .i64 2)
 have y:=(s.box 0 rfl).1
 simp [boxAt,txBox] at y
 unfold ref04_Text_listed.b4
 simp -dsimp [go_sem,y]
 refine SPL_intro (fun h=>?_) (fun h=>?_) <;> simp at h
 ·obtain ⟨g,hg,c0,c1,cf⟩:=ts_at s 1 rfl hi
  have hAt:D.At=some ⟨g,0,none⟩:=hg
  have hD:D={D with At:=some ⟨g,0,none⟩ }:=by rw [←hAt]
  rw [hAt] at y
  rw [hD] at s
  unfold ref04_Text_listed.b4_1
  simp -dsimp [go_sem,y,hi,Nat.not_le.2 hi,c1,cf]
  have s2:=(s.setRow 1 rfl (i*2+1) (.int .i64 x.lv.length)).old (Chg.refl noB _).drew
  refine h5 (ts.modify i fun y=>(y.1,(x.lv.length:Int))) _ {D with At:=some ⟨g,0,none⟩ } (by rw [if_neg (by omega)]) ?_
  have e:((ts.flatMap termE).set (i*2+1) (.int .i64 x.lv.length))=(ts.modify i fun y=>(y.1,(x.lv.length:Int))).flatMap termE:=by
   exact flat_set (enc:=termE) (size:=2) (fun y=>(y.1,(x.lv.length:Int))) 1 _ (by omega) ts i (fun _ _=>rfl) (fun y _=>rfl) hi
  have el:(ts.modify i fun y=>(y.1,(x.lv.length:Int))).length=ts.length:=by simp
  unfold txL txBox
  simp only [el]
  rw [←e]
  exact s2
 ·refine h5 ts _ D (by rw [if_pos (by omega)]) s

/-- A terminal that did not come yet. -/
theorem listed_b3 {t:ByteArray} (hb:XB x) (s:St F w w1 (txL tb x D))
  (hR:∀w' D',St F w w' (txL tb {x with ph:=2,ts:=putT x.ts t (if 0<x.sd then x.lv.length else 0) } D')→R (.returned (.bool true)) w') (hlv:0<x.sd→0<x.lv.length) :
  ref04_Text_listed.b3 R (.pointer (some ⟨tb,0,none⟩)) (.string t) (.int .i64 (posI x.ts t)) w1:=by
 have hz:∀(us:List (ByteArray×Int)) (k:Nat),(if x.sd=0 then us else us.modify k fun y=>(y.1,(x.lv.length:Int)))=if (if 0<x.sd then x.lv.length else 0)=0 then us else us.modify k fun y=>(y.1,(((if 0<x.sd then x.lv.length else 0:Nat)):Int)):=fun us k=>by
  by_cases h:x.sd=0
  ·have h1:¬0<x.sd:=by omega
   simp [h]
  ·have h1:0<x.sd:=by omega
   have h2:x.lv.length≠0:=by have:=hlv h1;omega
   simp only [h,h1,h2,if_true,if_false]
 have y:=(s.box 0 rfl).1
 simp [boxAt,txBox] at y
 unfold ref04_Text_listed.b3
 simp -dsimp [go_sem]
 refine SPL_intro (fun h=>?_) (fun h=>?_) <;> simp at h
 ·have hno:=posI_neg.1 h
  have hm:=lvT_none.1 hno
  have hts:=hb.ts
  unfold ref04_Text_listed.b3_1
  simp -dsimp [go_sem,y,bTerm1]
  refine s.append1 1 rfl uTms info_term rfl (by omega) (news:=[.string t,.int .i64 0]) rfl (by simp [Value.oneCell']) (by unfold maxLen;omega) (by unfold maxBytes;omega) ?_
  intro g cap w3 s3
  have y3:=(s3.box 0 rfl).1
  have f3:=(s3.box 0 rfl).2.1 2
  simp [boxAt,txBox] at y3
  have s4:=s3.set 0 rfl 2 (.slice (some ⟨g,0,none⟩) (x.ts.length+1) cap)
  have y4:=(s4.box 0 rfl).1.2.2.1
  have wk:IntKind.i64.wrap (x.ts.length:Int)=(x.ts.length:Int):=IntWalk.i64_in _ (by omega)
  have y4':(w3.setCell ⟨tb,2,none⟩ (.slice (some ⟨g,0,none⟩) (x.ts.length+1) cap)).cell? ⟨tb,2,none⟩=some (.slice (some ⟨g,0,none⟩) (x.ts.length+1) cap):=y4
  simp -dsimp [go_sem,y3,f3]
  generalize w3.setCell ⟨tb,2,none⟩ (.slice (some ⟨g,0,none⟩) (x.ts.length+1) cap)=w4 at s4 y4' ⊢
  rw [wk]
  refine listed_b4 (F:=F) (w:=w) (ts:=x.ts++[(t,0)]) (i:=x.ts.length) (by simp) hb.lv (D:={D with At:=some ⟨g,0,none⟩,ct:=cap }) (x:=x) ?_ (fun w' D' s'=>hR w' D' ?_)
  ·simpa [txL,txBox,termE] using s4
  ·have e:putT x.ts t (if 0<x.sd then x.lv.length else 0)=if x.sd=0 then x.ts++[(t,0)] else (x.ts++[(t,0)]).modify x.ts.length fun y=>(y.1,(x.lv.length:Int)):=by
    rw [hz]
    unfold putT
    have hb:¬hasB (x.ts.map (·.1)) t=true:=fun h=>hm (hasB_iff.1 h)
    simp only [if_neg hb]
    have:posN ((x.ts++[(t,(0:Int))]).map (·.1)) t=x.ts.length:=by
     rw [List.map_append,List.map_singleton,posN_snoc,if_neg (by rw [posN_no hm];omega),if_pos rfl,List.length_map]
    rw [this]
   rw [e];exact s'
 ·obtain ⟨n,hn⟩:∃n,lvT x.ts t=some n:=by
   cases hl:lvT x.ts t with
   | none=>have:=posI_neg.2 hl;omega
   | some n=>exact ⟨n,rfl⟩
  obtain ⟨i,hi,e1,e2,e3⟩:=posI_some hn
  rw [e1]
  refine listed_b4 (ts:=x.ts) hi hb.lv s (fun w' D' s'=>hR w' D' ?_)
  have hm:t∈x.ts.map (·.1):=Classical.byContradiction fun h=>by rw [lvT_none.2 h] at hn;cases hn
  have e:putT x.ts t (if 0<x.sd then x.lv.length else 0)=if x.sd=0 then x.ts else x.ts.modify i fun y=>(y.1,(x.lv.length:Int)):=by
   rw [hz]
   unfold putT
   simp only [hasB_iff.2 hm,if_true,e2]
  rw [e];exact s'

theorem listed_ct {t:ByteArray} (hb:XB x) (hlv:0<x.sd→0<x.lv.length) (s:St F w w (txL tb x D)):Ct Tryd.prog ref04_Text_listed.id #[.pointer (some ⟨tb,0,none⟩),.string t] w (XEnd F w tb (listX x t)):=by
 refine ref04_Text_listed.ct fun R hR=>?_
 unfold ref04_Text_listed.run
 simp -dsimp [go_sem]
 refine CALL_of (term_ct s 0 rfl 1 rfl hb.ts t) ?_
 rintro _ w1 ⟨rfl,hc⟩
 have s1:=s.old hc
 have y:=(s1.box 0 rfl).1
 simp [boxAt,txBox] at y
 have fin:∀q:Bool,(q=true↔(knOf (lvT x.ts t)=2∨(x.sd=0∧0<knOf (lvT x.ts t))))→ref04_Text_listed.b7 R (.pointer (some ⟨tb,0,none⟩)) (.string t) (.int .i64 (posI x.ts t)) (.bool q) w1:=fun q hq=>by
  unfold ref04_Text_listed.b7
  refine SPL_intro (fun h=>?_) (fun h=>?_)
  ·refine hR _ _ ?_
   unfold XEnd listX
   rw [if_pos (hq.1 h)]
   exact ⟨rfl,x,D,s1⟩
  ·have hn:¬(knOf (lvT x.ts t)=2∨(x.sd=0∧0<knOf (lvT x.ts t))):=fun h2=>by rw [hq.2 h2] at h;cases h
   refine listed_b3 hb s1 (fun w' D' s'=>hR _ _ ?_) hlv
   unfold XEnd listX
   rw [if_neg hn]
   exact ⟨rfl,D',s'⟩
 unfold ref04_Text_listed.b6
 simp -dsimp [go_sem,y]
 cases hl:lvT x.ts t with
 | none =>
  have hp:=posI_neg.2 hl
  have hp':¬0≤posI x.ts t:=by omega
  rw [hl] at fin
  refine SPL_intro (fun h=>?_) (fun h=>?_) <;> simp at h
  ·unfold ref04_Text_listed.b6_2
   simp -dsimp [go_sem,hp']
   exact fin false (by simp [knOf])
  ·simp -dsimp [go_sem,hp']
   exact fin false (by simp [knOf])
 | some n =>
  obtain ⟨i,hi,e1,e2,e3⟩:=posI_some hl
  have hp':0≤posI x.ts t:=by omega
  obtain ⟨g,hg,c0,c1,cf⟩:=ts_at s1 1 rfl hi
  have hg':D.At=some ⟨g,0,none⟩:=hg
  rw [hg'] at y
  rw [e3] at c1
  rw [hl] at fin
  refine SPL_intro (fun h=>?_) (fun h=>?_) <;> simp at h
  ·unfold ref04_Text_listed.b6_2
   simp -dsimp [go_sem,hp']
   have hk:0<knOf (some n):=by simp only [knOf];split <;> omega
   exact fin true (by simp [h,hk])
  ·simp -dsimp [go_sem,hp']
   unfold ref04_Text_listed.b6_3
   rw [e1] at fin ⊢
   simp -dsimp [go_sem,y,hi,Nat.not_le.2 hi,c1]
   have hk:knOf (some n)=2↔0<n:=by simp only [knOf];split <;> omega
   exact fin _ (by simp [h,hk])
end
end Go.Proofs.YtckbgeedlobfaaaDoor

/-
  The document's text: begin, another.
-/
namespace Go.Px.Spec
open Go.Px Go.Px.Scan
def beginX (x:Rx) (w:Wd):Option Rx:=if w.1=1 then some {x with ph:=5,rl:=w.2.1,ls:=addB x.ls w.2.1 } else none
def anotherX (x:Rx):Rx:={x with ph:=6,rows:=x.rows++[⟨x.rl,[],0,noT⟩] }
end Go.Px.Spec
namespace Go.Proofs.YtckbgeedlobfaaaDoor
open Go.Px Go.Px.Scan Go.Px.Spec Go.RowKit
attribute [-go_sem] Builtin.append_ ref04_Text_begin.b2 ref04_Text_begin.b1_1 ref04_Text_begin.b1_2

theorem uRfs:Tryd.prog.underlying 67=some (.slice 124):=Tryd.underlying67
theorem iRf:(Tryd.prog.info? 124).map (fun i=>(i.zero,i.size,i.bytes))=some (some (.agg #[.string ⟨#[]⟩,.slice none 0 0,.int .i64 0,.string ⟨#[]⟩]),4,64):=by kernel_rfl
theorem bRf (t:ByteArray) (w:World):(Instr.build 124 #[(0,.string t)]).run Tryd.prog w = .ok (.agg #[.string t,.slice none 0 0,.int .i64 0,.string ⟨#[]⟩]) w:=by simp [go_sem]
attribute [go_sem ↓] bRf

section
variable {F:Nat→Prop} {w w1:World} {R:EP} {tb:Nat} {x:Rx} {D:TD}

theorem lw_snoc (rows:List RowS) (r:RowS):lw (rows++[r])=r.words:=by simp [lw]
theorem us_len {rows:List RowS} {us:List Value} (s:St F w w1 (txL tb x D)):D.us.length=x.rows.length-1:=by
 obtain ⟨F',ho,_⟩:=s.get (k:=4) rfl
 have:=ho.1
 simpa using this

theorem another_ct (hb:XB x) (s:St F w w (txL tb x D)):Ct Tryd.prog ref04_Text_another.id #[.pointer (some ⟨tb,0,none⟩)] w fun v w'=>v = .tuple #[]∧∃D',St F w w' (txL tb (anotherX x) D'):=by
 refine ref04_Text_another.ct fun R hR=>?_
 have hrw:=hb.rows
 have hul:=us_len (rows:=x.rows) (us:=D.us) s
 have y:=(s.box 0 rfl).1
 simp [boxAt,txBox] at y
 obtain ⟨wa,hwa⟩:∃wa,w.alloc (.cells #[.string x.rl,.slice none 0 0,.int .i64 0,.string ⟨#[]⟩] 124)=wa:=⟨_,rfl⟩
 have sa:=s.old (by rw [←hwa];exact (Chg.refl noB w).alloc _:Chg noB w wa)
 have ya:=(sa.box 0 rfl).1
 simp [boxAt,txBox] at ya
 unfold ref04_Text_another.run
 simp -dsimp [go_sem,y,bRf,hwa,ya]
 rw [←hwa]
 refine s.append1d 3 rfl uRfs iRf rfl (by omega) (news:=[.string x.rl,.slice none 0 0,.int .i64 0,.string ⟨#[]⟩]) rfl (by simp [Value.oneCell']) (by unfold maxLen;omega) (by unfold maxBytes;omega) ?_
 intro g cap w3 s3
 have y3:=(s3.box 0 rfl).1
 have f3:=(s3.box 0 rfl).2.1
 have f30:=f3 0
 have f34:=f3 4
 simp [boxAt,txBox] at y3
 have s4:=(s3.set 0 rfl 4 (.slice (some ⟨g,0,none⟩) (x.rows.length+1) cap)).set 0 rfl 0 (.int .i64 6)
 simp -dsimp [go_sem,y3,f30,f34,World.cell?_setCell_other]
 refine hR _ _ ⟨rfl,?_⟩
 by_cases h0:x.rows=[]
 ·have hu:D.us=[]:=by rw [h0] at hul;simpa using hul
  have s5:=(s4.nilRow 46 3).pick [0,1,2,3,4,7,6] (L':=txL tb (anotherX x) ⟨D.At,D.ct,D.Al,D.cl,some ⟨g,0,none⟩,cap,[],none,0,D.Af,D.cf⟩) (by decide) (by simp [txL,txBox,anotherX,h0,hu,lw,encRf,noT])
  exact ⟨_,s5⟩
 ·obtain ⟨done,r,e⟩:∃done r,x.rows=done++[r]:=by
   rcases List.eq_nil_or_concat x.rows with e | ⟨a,b,e⟩
   ·exact absurd e h0
   ·exact ⟨a,b,by simpa using e⟩
  have hul':D.us.length=done.length:=by rw [hul,e];simp
  have hz:((x.rows++[(⟨x.rl,[],0,noT⟩:RowS)]).zip ((D.us++[Value.slice D.Ax (lw x.rows).length D.cx])++[Value.slice none 0 0])).flatMap encRf=(x.rows.zip (D.us++[Value.slice D.Ax (lw x.rows).length D.cx])).flatMap encRf++[Value.string x.rl,.slice none 0 0,.int .i64 0,.string ⟨#[]⟩]:=by
   rw [List.zip_append (by rw [e];simp [hul'])]
   simp [encRf,noT]
  have s5:=(s4.merge (j:=5) (k:=4) rfl rfl (by decide) fun F F' ho ho'=>rowsC_snoc ho ho').nilRow 46 3
  have s6:=s5.pick [0,1,2,3,4,7,6] (L':=txL tb (anotherX x) ⟨D.At,D.ct,D.Al,D.cl,some ⟨g,0,none⟩,cap,D.us++[.slice D.Ax (lw x.rows).length D.cx],none,0,D.Af,D.cf⟩) (by decide) (by
   have e1:(anotherX x).rows.dropLast=x.rows:=by simp [anotherX]
   have e2:lw (anotherX x).rows=[]:=by simp [anotherX,lw]
   have e3:x.rows.dropLast.map (fun r=>r.words.flatMap encW)++[(lw x.rows).flatMap encW]=x.rows.map fun r=>r.words.flatMap encW:=by rw [e];simp [lw]
   unfold txL
   simp only [e1,e2]
   rw [←e3]
   have e4:(anotherX x).rows=x.rows++[⟨x.rl,[],0,noT⟩]:=rfl
   have e5:([]:List Wd).length=0:=rfl
   rw [e4,e5,hz]
   simp [txBox,anotherX])
  exact ⟨_,s6⟩

theorem begin_ct {wd:Wd} (hb:XB x) (s:St F w w (txL tb x D)):Ct Tryd.prog ref04_Text_begin.id #[.pointer (some ⟨tb,0,none⟩),wdV wd] w (XEnd F w tb (beginX x wd)):=by
 refine ref04_Text_begin.ct fun R hR=>?_
 unfold ref04_Text_begin.run
 rw [show wdV wd = .agg #[.int .i64 wd.1,.string wd.2.1,.int .i64 wd.2.2] from rfl]
 simp -dsimp [go_sem]
 have hc1:Chg noB w (w.alloc (.cells #[.int .i64 wd.1,.string wd.2.1,.int .i64 wd.2.2] 46)):=(Chg.refl noB w).alloc _
 have ht:=new46 (w:=w) wd
 have s1:=s.old hc1
 generalize w.alloc (.cells #[.int .i64 wd.1,.string wd.2.1,.int .i64 wd.2.2] 46)=w1 at s1 hc1 ht ⊢
 generalize w.heap.size=q at ht ⊢
 have d1:=ht.c1
 have y1:=(s1.box 0 rfl).1
 simp [boxAt,txBox] at y1
 have f5:=(s1.box 0 rfl).2.1 5
 refine SPL_intro (fun h=>?_) (fun h=>?_) <;> simp at h
 ·refine hR _ _ ?_
  unfold XEnd beginX
  rw [if_neg h];exact ⟨rfl,x,D,s1⟩
 ·have hX:beginX x wd=some {x with ph:=5,rl:=wd.2.1,ls:=addB x.ls wd.2.1 }:=if_pos h
  have hne:q≠tb∨True:=Or.inr trivial
    -- the left is set
  have h2:∀w' D',St F w w' (txL tb {x with rl:=wd.2.1,ls:=addB x.ls wd.2.1 } D')→ref04_Text_begin.b2 R (.pointer (some ⟨tb,0,none⟩)) w':=fun w' D' s'=>by
   have f0:=(s'.box 0 rfl).2.1 0
   have y0:=(s'.box 0 rfl).1
   simp [boxAt,txBox] at y0
   unfold ref04_Text_begin.b2
   simp -dsimp [go_sem,y0,f0]
   refine hR _ _ ?_
   rw [hX]
   exact ⟨rfl,D',s'.set 0 rfl 0 (.int .i64 5)⟩
  have s2:=s1.set 0 rfl 5 (.string wd.2.1)
  have y2:=(s2.box 0 rfl).1.2.2.2.2.2.2.1
  have y2':(w1.setCell ⟨tb,5,none⟩ (.string wd.2.1)).cell? ⟨tb,6,none⟩=some (.slice D.Af x.ls.length D.cf):=y2
  have hq:(w1.setCell ⟨tb,5,none⟩ (.string wd.2.1)).cell? ⟨q,1,none⟩=some (.string wd.2.1):=by
   rw [World.cell?_setCell_other _ _ _ _ (by intro e;injection e with _ e;omega)];exact d1
  unfold ref04_Text_begin.b1_2
  simp -dsimp [go_sem,d1,y1,f5]
  generalize w1.setCell ⟨tb,5,none⟩ (.string wd.2.1)=w2 at s2 y2' hq ⊢
  have s2d:=s2.old (Chg.refl noB w2).drew
  refine CALL_of (has_ct s2d 6 rfl hb.ls wd.2.1) ?_
  rintro _ w3 ⟨rfl,hc3⟩
  have s3:=s2d.old hc3
  have hq3:w3.cell? ⟨q,1,none⟩=some (.string wd.2.1):=hc3.at (by simpa using hq) id
  simp -dsimp [go_sem]
  refine SPL_intro (fun h4=>?_) (fun h4=>?_) <;> simp at h4
  ·have hls:=hb.ls
   obtain ⟨wa,hwa⟩:∃wa,w3.alloc (.cells #[.string wd.2.1] 9)=wa:=⟨_,rfl⟩
   have sa:=s3.old (by rw [←hwa];exact (Chg.refl noB w3).alloc _:Chg noB w3 wa)
   have y3:w3.cell? ⟨tb,6,none⟩=some (.slice D.Af x.ls.length D.cf):=(s3.box 0 rfl).1.2.2.2.2.2.2.1
   have ya:wa.cell? ⟨tb,6,none⟩=some (.slice D.Af x.ls.length D.cf):=(sa.box 0 rfl).1.2.2.2.2.2.2.1
   unfold ref04_Text_begin.b1_1
   simp -dsimp [go_sem,y3,hq3,hwa,ya]
   rw [←hwa]
   refine s3.append1d 6 rfl uStrs iStr rfl (by omega) (news:=[.string wd.2.1]) rfl (by simp [Value.oneCell']) (show x.ls.length+1≤_ by unfold maxLen;omega) (show (x.ls.length+1)*16≤_ by unfold maxBytes;omega) ?_
   intro g cap w4 s4
   have y4:w4.cell? ⟨tb,6,none⟩=some (.slice D.Af x.ls.length D.cf):=(s4.box 0 rfl).1.2.2.2.2.2.2.1
   have f4:=(s4.box 0 rfl).2.1 6
   have s5:=s4.set 0 rfl 6 (.slice (some ⟨g,0,none⟩) (x.ls.length+1) cap)
   simp -dsimp [go_sem,y4,f4]
   refine h2 _ {D with Af:=some ⟨g,0,none⟩,cf:=cap } ?_
   have e:addB x.ls wd.2.1=x.ls++[wd.2.1]:=by unfold addB;rw [h4];rfl
   rw [e]
   simpa [txL,txBox] using s5
  ·refine h2 _ D ?_
   have e:addB x.ls wd.2.1=x.ls:=by unfold addB;rw [h4];rfl
   rw [e]
   exact s3
end
end Go.Proofs.YtckbgeedlobfaaaDoor

/-
  The document's answer: skipping, orders.
-/
namespace Go.Proofs.YtckbgeedlobfaaaDoor
open Go.Px Go.Px.Scan Go.RowKit

theorem ref_Skip_ct {s:ByteArray} (k:Nat) (hk:k≤s.size) (hs:s.size≤maxLen) (w:World):Ct Tryd.prog ref03_Skip.id #[.string s,.int .i64 k] w fun v w'=>v = .int .i64 (skipS s false k:Nat)∧w=w':=by
 refine ref03_Skip.ct fun R hR=>?_
 unfold ref03_Skip.run ref03_Skip.b1
 refine ref03_Skip.l5_intro _ _ _ _ _ (fun x c w1=>∃(j:Nat) (cm:Bool),x = .int .i64 j∧c = .bool cm∧w=w1∧j≤s.size∧skipS s cm j=skipS s false k) (fun x _ _=>s.size-iv x) ⟨k,false,rfl,rfl,rfl,hk,rfl⟩ ?_
 rintro _ _ _ ⟨j,cm,rfl,rfl,rfl,hj,he⟩ C hC
 unfold ref03_Skip.b6
 simp [go_sem]
 refine SPL_intro (fun h=>?_) (fun h=>?_) <;> simp at h
 ·have step:∀cm',skipS s cm j=skipS s cm' (j+1)→ref03_Skip.b10 R C (.int .i64 j) (.bool cm') w:=by
   intro cm' he'
   unfold ref03_Skip.b10
   simp [go_sem,wrap_succ h hs]
   exact hC _ _ _ ⟨j+1,cm',rfl,rfl,rfl,h,by rw [←he,he']⟩ (by simp [iv];omega)
  have body:∀bl,bl=blankN (bt s j)→ref03_Skip.b9 R C (.int .i64 j) (.bool cm) (.int .u8 (bt s j)) (.bool bl) w:=by
   intro bl hbl
   unfold ref03_Skip.b9
   cases cm with
   | true =>
    simp [go_sem]
    refine step _ ?_
    conv=>lhs;unfold skipS
    rw [if_pos h,if_pos rfl]
    congr 1
    rw [Bool.eq_iff_iff];simp;omega
   | false =>
    simp [go_sem]
    refine SPL_intro (fun h1=>?_) (fun h1=>?_) <;> simp at h1
    ·refine step _ ?_
     conv=>lhs;unfold skipS
     rw [if_pos h,if_neg (by simp),if_pos (by omega)]
    ·cases bl with
     | true=>simp [go_sem];exact step _ (skip_blank h hbl.symm)
     | false=>simp [go_sem];exact hR _ _ ⟨by rw [←he,skip_none h hbl.symm (by omega)],rfl⟩
  unfold ref03_Skip.b8
  simp [go_sem,index_bt,h]
  refine SPL_intro (fun h1=>?_) (fun h1=>?_) <;> simp at h1
  ·exact body _ (by simp [blankN];omega)
  simp [go_sem]
  refine SPL_intro (fun h2=>?_) (fun h2=>?_) <;> simp at h2
  ·exact body _ (by simp [blankN];omega)
  simp [go_sem]
  refine SPL_intro (fun h3=>?_) (fun h3=>?_) <;> simp at h3
  ·exact body _ (by simp [blankN];omega)
  simp [go_sem]
  exact body _ (by rw [Bool.eq_iff_iff];simp [blankN];omega)
 ·unfold ref03_Skip.b3
  exact hR _ _ ⟨by rw [←he,skip_end h],rfl⟩

def ordersR:List ByteArray:=[⟨#[37,116,111,107,101,110]⟩,⟨#[37,108,101,102,116]⟩,⟨#[37,114,105,103,104,116]⟩,⟨#[37,110,111,110,97,115,115,111,99]⟩,⟨#[37,115,116,97,114,116]⟩,⟨#[37,112,114,101,99]⟩,⟨#[37,110,111,110,101]⟩]

theorem ordersR_any (p:ByteArray→Bool):ordersR.any p=ordersL.any p:=by
 simp only [ordersR,ordersL,List.any_cons,List.any_nil,Bool.or_false]
 generalize p ⟨#[37,116,111,107,101,110]⟩=a1
 generalize p ⟨#[37,108,101,102,116]⟩=a2
 generalize p ⟨#[37,114,105,103,104,116]⟩=a3
 generalize p ⟨#[37,110,111,110,97,115,115,111,99]⟩=a4
 generalize p ⟨#[37,115,116,97,114,116]⟩=a5
 generalize p ⟨#[37,112,114,101,99]⟩=a6
 generalize p ⟨#[37,110,111,110,101]⟩=a7
 revert a1 a2 a3 a4 a5 a6 a7
 decide

theorem ref_Orders_ct (w:World):Ct Tryd.prog ref03_Orders.id #[] w fun v w'=>v = .slice (some ⟨w.heap.size,0,none⟩) 7 7∧w.alloc (.cells (ordersR.map Value.string).toArray 9)=w':=by
 refine ref03_Orders.ct fun R hR=>?_
 unfold ref03_Orders.run ref03_Orders.b1
 simp [go_sem]
 exact hR _ _ ⟨rfl,rfl⟩

theorem prefB_self (o s:ByteArray):(o.toList == s.toList || (decide (s.size<o.size) && ((o.extract 0 s.size).toList == s.toList)))=prefB o s:=by
 have ho:o.toList.length=o.size:=by rw [ByteArray.toList_eq];simp
 have hs:s.toList.length=s.size:=by rw [ByteArray.toList_eq];simp
 have hx:(o.extract 0 s.size).toList=o.toList.take s.size:=by rw [Lib.extract_toList,ByteArray.toList_eq];simp
 unfold prefB
 rw [hx]
 rcases Nat.lt_trichotomy s.size o.size with h | h | h
 ·have h1:(o.toList == s.toList)=false:=by
   rw [beq_eq_false_iff_ne];intro e;have:=congrArg List.length e;omega
  rw [h1,decide_eq_true h,decide_eq_true (Nat.le_of_lt h)];simp
 ·rw [h,←ho,List.take_length,ho]
  simp
 ·have h1:(o.toList == s.toList)=false:=by
   rw [beq_eq_false_iff_ne];intro e;have:=congrArg List.length e;omega
  rw [h1,decide_eq_false (by omega:¬s.size<o.size),decide_eq_false (by omega:¬s.size≤o.size)];simp

theorem ref_begun_ct (p:ByteArray) (all:Bool) (w:World):Ct Tryd.prog ref03_begun.id #[.string p,.bool all] w fun v w' =>
  v = .bool (if all then whole p else Scan.begun p)∧Chg (fun _=>False) w w':=by
 refine ref03_begun.ct fun R hR=>?_
 unfold ref03_begun.run ref03_begun.b1
 refine CALL_of (ref_Orders_ct w) ?_
 rintro _ w1 ⟨rfl,hw1⟩
 have hc1:Chg (fun _=>False) w w1:=by rw [←hw1];exact (Chg.refl _ _).alloc _
 have hcell:∀(i:Nat) (hi:i<7),w1.cell? ⟨w.heap.size,0+i,none⟩=some (.string (ordersR[i]'hi)):=by
  intro i hi
  rw [←hw1,new_cell _ _ _ rfl,Nat.zero_add,List.getElem?_toArray,List.getElem?_map,List.getElem?_eq_getElem (show i<ordersR.length from hi)]
  rfl
 clear hw1
 unfold ref03_begun.b4
 have hq:(if all then whole p else Scan.begun p)=ordersR.any fun o=>(o.toList == p.toList) || (!all && (decide (p.size<o.size) && ((o.extract 0 p.size).toList == p.toList))):=by
  rw [ordersR_any]
  cases all with
  | true=>simp only [if_true,whole,Bool.not_true,Bool.false_and,Bool.or_false];congr 1;funext o;exact BEq.comm
  | false=>simp only [Scan.begun,Bool.not_false,Bool.true_and,prefB_self];rfl
 rw [hq] at hR
 generalize hqq:(fun o:ByteArray=>(o.toList == p.toList) || (!all && (decide (p.size<o.size) && ((o.extract 0 p.size).toList == p.toList))))=q at hR
 refine ref03_begun.l6_intro _ _ _ _ _ _ (fun x w2=>∃k:Nat,x = .int .i64 k∧k≤7∧w1=w2∧(ordersR.take k).any q=false) (fun x _=>7-iv x) ⟨0,rfl,by omega,rfl,rfl⟩ ?_
 rintro _ _ ⟨k,rfl,hk,rfl,hno⟩ C hC
 unfold ref03_begun.b7
 simp [go_sem]
 refine SPL_intro (fun h=>?_) (fun h=>?_) <;> simp at h
 ·have hc:=hcell k (by omega)
  have hk7:k<ordersR.length:=by show k<7;omega
  generalize ho:ordersR[k]'(by show k<7;omega)=o at hc
  have hq1:∀b,b=q o→ref03_begun.b12 R C (.int .i64 k) (.bool b) w1:=by
   intro b hb
   unfold ref03_begun.b12
   refine SPL_intro (fun h1=>?_) (fun h1=>?_)
   ·refine hR _ _ ⟨?_,hc1⟩
    have:ordersR.any q=true:=List.any_eq_true.2 ⟨o,by rw [←ho];exact List.getElem_mem _,by rw [←hb];exact h1⟩
    rw [this]
   ·unfold ref03_begun.b9
    simp [go_sem,wrap_succ (show k<7 by omega) (show 7≤maxLen by decide)]
    refine hC _ _ ⟨k+1,rfl,by omega,rfl,?_⟩ (by simp [iv];omega)
    rw [List.take_succ_eq_append_getElem hk7,List.any_append,hno]
    simp only [List.any_cons,List.any_nil,Bool.or_false,Bool.false_or]
    rw [ho,←hb];exact h1
  unfold ref03_begun.b11
  have hk7':(k:Int)<7:=by omega
  rw [Nat.zero_add] at hc
  simp [go_sem,hc,hk7',show k<7 by omega]
  rw [←hqq] at hq1
  refine SPL_intro (fun h1=>?_) (fun h1=>?_)
  ·exact hq1 _ (by simp [h1])
  cases all with
  | true =>
   simp [go_sem]
   exact hq1 _ (by simp at h1;simp [h1])
  | false =>
   simp [go_sem,hc,hk7',show k<7 by omega]
   refine SPL_intro (fun h2=>?_) (fun h2=>?_) <;> simp at h2
   ·simp [go_sem,hc,hk7',show k<7 by omega,show p.size≤o.size by omega]
    exact hq1 _ (by simp at h1;simp [h1,h2])
   ·exact hq1 _ (by simp at h1;simp [h1];intro h3;omega)
 ·unfold ref03_begun.b3
  refine hR _ _ ⟨?_,hc1⟩
  rw [List.take_of_length_le (by show 7≤k;omega)] at hno
  rw [hno]
end Go.Proofs.YtckbgeedlobfaaaDoor

/-
  The document's answer: one word.
-/
namespace Go.Proofs.YtckbgeedlobfaaaDoor
open Go.Px Go.Px.Scan Go.RowKit

def wdV' (kd:Int) (t:ByteArray) (k:Int):Value := .agg #[.int .i64 kd,.string t,.int .i64 k]

def OneR (s:ByteArray) (i:Nat) (v:Value):Prop :=
 match oneS s i with
 | .bad k=>v = .tuple #[wdV' 0 ⟨#[]⟩ 0,.int .i64 0,.int .i64 k]
 | .word kd a e n=>v = .tuple #[wdV' kd (s.extract a e) i,.int .i64 n,.int .i64 (-1)]

theorem chg3 {w:World} {q:Nat} (a b c:Value):Chg (·=q) w (((w.setCell ⟨q,0,none⟩ a).setCell ⟨q,1,none⟩ b).setCell ⟨q,2,none⟩ c) :=
 (((Chg.refl (·=q) w).setCell (p:=⟨q,0,none⟩) (Or.inl rfl) _).setCell (p:=⟨q,1,none⟩) (Or.inl rfl) _).setCell (p:=⟨q,2,none⟩) (Or.inl rfl) _

theorem ref_One_ct {s:ByteArray} {i:Nat} (hi:i<s.size) (hs:s.size≤maxLen) (w:World):Ct Tryd.prog ref03_One.id #[.string s,.int .i64 i] w fun v w'=>OneR s i v∧Chg (fun _=>False) w w':=by
 refine ref03_One.ct fun R hR=>?_
 unfold ref03_One.run ref03_One.b1
 simp [go_sem,index_bt,hi,wrap_succ hi hs]
 generalize hw1:w.alloc (Obj.cells #[Value.int IntKind.i64 0,Value.string {data:=#[] },Value.int IntKind.i64 0] 46)=w1
 have hc1:Chg (fun _=>False) w w1:=by rw [←hw1];exact (Chg.refl _ _).alloc _
 have ht1:Tri w1 w.heap.size 0 ⟨#[]⟩ 0:=by rw [←hw1];exact ⟨new_cell _ _ _ rfl 0,new_cell _ _ _ rfl 1,new_cell _ _ _ rfl 2,new_frozen _ _ _ rfl 0,new_frozen _ _ _ rfl 1,new_frozen _ _ _ rfl 2⟩
 have hqw:w.heap.size=w.heap.size:=rfl
 generalize hq:w.heap.size=q at ht1 ⊢
 clear hw1 hqw
  -- each way out
 have out:∀{w2:World} {v:Value} {a b c:Value},Chg (fun _=>False) w w2→OneR s i v→R (.returned v) (((w2.setCell ⟨q,0,none⟩ a).setCell ⟨q,1,none⟩ b).setCell ⟨q,2,none⟩ c):=by
  intro w2 v a b c h2 hv
  exact hR _ _ ⟨hv,h2.trans' (chg3 a b c) (fun i hi e=>by omega)⟩
 have badR:∀{k},oneS s i = .bad k→OneR s i (.tuple #[wdV' 0 ⟨#[]⟩ 0,.int .i64 0,.int .i64 (k:Nat)]):=by
  intro k h;unfold OneR;rw [h]
 have wordR:∀{kd a e n:Nat},oneS s i = .word kd a e n→OneR s i (.tuple #[wdV' kd (s.extract a e) i,.int .i64 n,.int .i64 (-1)]):=by
  intro kd a e n h;unfold OneR;rw [h]
 obtain ⟨k1,hk1⟩:∃k1,k1=i+1:=⟨_,rfl⟩
 have hcast:((i:Int)+1)=(k1:Int):=by omega
 rw [hcast]
 have wrapk:IntKind.i64.wrap ((i:Int)+1)=(k1:Int):=by rw [wrap_succ hi hs];omega
 have sub16:∀k,i≤k→k≤s.size→IntKind.i64.wrap ((k:Int)-i)=((k-i:Nat):Int):=by
  intro k h1 h2;unfold maxLen at *;rw [IntWalk.i64_in _ (by omega)];omega
  -- a name
 have nm:signN (bt s i)=false→¬bt s i=37→¬bt s i=39→(letterN (bt s i) || decide (bt s i=95))=true →
   ref03_One.l13 R (.string s) (.int .i64 i) (.pointer (some ⟨q,0,none⟩)) (.int .i64 k1) w1:=by
  intro h0 h37 h39 hl
  have hone:oneS s i=(if runS innerN s i 16<s.size∧innerN (bt s (runS innerN s i 16))=true then .bad (runS innerN s i 16) else .word 1 i (runS innerN s i 16) (runS innerN s i 16)):=by
   unfold oneS
   rw [if_neg (by simp [h0]),if_neg h37,if_neg h39,if_pos hl]
  refine ref03_One.l13_intro _ _ _ _ _ _ (fun x w2=>∃k:Nat,x = .int .i64 k∧w1=w2∧i<k∧k≤i+16∧k≤s.size∧runS innerN s i 16=runS innerN s k (i+16-k)) (fun x _=>s.size-iv x) ⟨k1,rfl,rfl,by omega,by omega,by omega,?_⟩ ?_
  ·have e:runS innerN s i 16=if i<s.size && innerN (bt s i) then runS innerN s (i+1) 15 else i:=rfl
   rw [e,inner_of_letter hl,hk1]
   simp [hi]
  rintro _ _ ⟨k,rfl,rfl,hik,hk16,hks,hr⟩ C hC
  have fin:runS innerN s i 16=k→(¬(k<s.size∧innerN (bt s k)=true))→ref03_One.b11 R (.string s) (.int .i64 i) (.pointer (some ⟨q,0,none⟩)) (.int .i64 k) w1:=by
   intro he hno
   unfold ref03_One.b11
   simp [go_sem,ht1.c0,ht1.c1,ht1.c2,ht1.f0,ht1.f1,ht1.f2,World.cell?_setCell_other,hks,show i≤k by omega]
   exact out hc1 (wordR (kd:=1) (by rw [hone,he,if_neg hno]))
  have stop:(¬(k<s.size∧innerN (bt s k)=true))→runS innerN s i 16=k:=by
   intro hno
   rw [hr]
   cases hn:i+16-k with
   | zero=>rfl
   | succ n =>
    unfold runS
    rw [if_neg]
    intro h;simp at h;exact hno h
  unfold ref03_One.b16
  simp [go_sem]
  refine SPL_intro (fun h1=>?_) (fun h1=>?_) <;> simp at h1
  ·simp [go_sem,index_bt,h1]
   refine CALL_of (ref_inner_ct _ _) ?_
   rintro _ _ ⟨rfl,rfl⟩
   unfold ref03_One.b17
   refine SPL_intro (fun h2=>?_) (fun h2=>?_)
   ·unfold ref03_One.b15
    by_cases h16:k=i+16
    ·have h16':IntKind.i64.wrap ((k:Int)-i)=16:=by rw [sub16 k (by omega) hks];omega
     simp [go_sem,h16',ht1.c0,ht1.c1,ht1.c2,ht1.f0,ht1.f1,ht1.f2,World.cell?_setCell_other]
     have he:runS innerN s i 16=k:=by rw [hr,h16,Nat.sub_self];rfl
     exact out hc1 (badR (by rw [hone,he,if_pos ⟨h1,h2⟩]))
    ·have h16':(IntKind.i64.wrap ((k:Int)-i) == 16)=false:=by rw [sub16 k (by omega) hks];simp;omega
     simp [go_sem,h16',wrap_succ h1 hs]
     refine hC _ _ ⟨k+1,rfl,rfl,by omega,by omega,by omega,?_⟩ (by simp [iv];omega)
     rw [hr]
     obtain ⟨n,hn⟩:∃n,i+16-k=n+1:=⟨i+15-k,by omega⟩
     rw [hn,show i+16-(k+1)=n by omega]
     conv=>lhs;unfold runS
     rw [if_pos (by simp [h1,h2])]
   ·have hno:¬(k<s.size∧innerN (bt s k)=true):=fun h=>by rw [h.2] at h2;cases h2
    exact fin (stop hno) hno
  ·have hno:¬(k<s.size∧innerN (bt s k)=true):=fun h=>by omega
   unfold ref03_One.b17
   simp only [SPL_false]
   exact fin (stop hno) hno
  -- a quoted one
 have qt:signN (bt s i)=false→bt s i=39→ref03_One.l26 R (.string s) (.int .i64 i) (.pointer (some ⟨q,0,none⟩)) (.int .i64 k1) w1:=by
  intro h0 h39
  have hone:oneS s i=(if i+1<runS plainN s (i+1) 16∧runS plainN s (i+1) 16<s.size∧bt s (runS plainN s (i+1) 16)=39 then .word 2 (i+1) (runS plainN s (i+1) 16) (runS plainN s (i+1) 16+1) else .bad (runS plainN s (i+1) 16)):=by
   unfold oneS
   rw [if_neg (by simp [h0]),if_neg (by omega),if_pos h39]
  refine ref03_One.l26_intro _ _ _ _ _ _ (fun x w2=>∃k:Nat,x = .int .i64 k∧w1=w2∧i<k∧k≤i+17∧k≤s.size∧runS plainN s (i+1) 16=runS plainN s k (i+17-k)) (fun x _=>s.size-iv x) ⟨k1,rfl,rfl,by omega,by omega,by omega,?_⟩ ?_
  ·rw [hk1,show i+17-(i+1)=16 by omega]
  rintro _ _ ⟨k,rfl,rfl,hik,hk17,hks,hr⟩ C hC
  have stop:(¬(k<s.size∧plainN (bt s k)=true∧k<i+17))→runS plainN s (i+1) 16=k:=by
   intro hno
   rw [hr]
   cases hn:i+17-k with
   | zero=>rfl
   | succ n =>
    unfold runS
    rw [if_neg]
    intro h;simp at h;exact hno ⟨h.1,h.2,by omega⟩
  have bad:runS plainN s (i+1) 16=k→¬(i+1<k∧k<s.size∧bt s k=39)→ref03_One.b24 R (.string s) (.int .i64 i) (.pointer (some ⟨q,0,none⟩)) (.int .i64 k) (.bool true) w1:=by
   intro he hno
   unfold ref03_One.b24
   simp [go_sem,ht1.c0,ht1.c1,ht1.c2,ht1.f0,ht1.f1,ht1.f2,World.cell?_setCell_other]
   exact out hc1 (badR (by rw [hone,he,if_neg hno]))
  have good:runS plainN s (i+1) 16=k→(i+1<k∧k<s.size∧bt s k=39)→ref03_One.b24 R (.string s) (.int .i64 i) (.pointer (some ⟨q,0,none⟩)) (.int .i64 k) (.bool false) w1:=by
   intro he hyes
   unfold ref03_One.b24
   simp only [SPL_false]
   unfold ref03_One.b22
   have e1:(k1:Int)≤k:=by omega
   have hwr:=wrap_succ hyes.2.1 hs
   simp [go_sem,ht1.c0,ht1.c1,ht1.c2,ht1.f0,ht1.f1,ht1.f2,World.cell?_setCell_other,hks,wrapk,hwr,show k1≤k by omega]
   have e2:((k:Int)+1)=((k+1:Nat):Int):=by omega
   rw [e2]
   refine out hc1 (wordR (kd:=2) (a:=k1) (e:=k) (n:=k+1) ?_)
   rw [hone,he,if_pos hyes,hk1]
  have after:(¬(k<s.size∧plainN (bt s k)=true∧k<i+17))→ref03_One.b23 R (.string s) (.int .i64 i) (.pointer (some ⟨q,0,none⟩)) (.int .i64 k) w1:=by
   intro hno
   have he:=stop hno
   unfold ref03_One.b23
   simp [go_sem]
   refine SPL_intro (fun h1=>?_) (fun h1=>?_) <;> simp at h1
   ·exact bad he (fun h=>by omega)
   ·simp [go_sem,index_bt,h1]
    refine SPL_intro (fun h2=>?_) (fun h2=>?_) <;> simp at h2
    ·exact bad he (fun h=>by omega)
    ·simp [go_sem,wrapk]
     by_cases hkk:k=k1
     ·rw [show ((k:Int) == (k1:Int))=true by simp;omega]
      exact bad he (fun h=>by omega)
     ·rw [show ((k:Int) == (k1:Int))=false by simp;omega]
      exact good he ⟨by omega,h1,by omega⟩
  have no30:(¬(k<s.size∧plainN (bt s k)=true∧k<i+17))→ref03_One.b30 R C (.string s) (.int .i64 i) (.pointer (some ⟨q,0,none⟩)) (.int .i64 k) (.bool false) w1:=by
   intro hno
   unfold ref03_One.b30
   simp only [SPL_false]
   exact after hno
  unfold ref03_One.b29
  simp [go_sem]
  refine SPL_intro (fun h1=>?_) (fun h1=>?_) <;> simp at h1
  ·simp [go_sem,index_bt,h1]
   refine SPL_intro (fun h2=>?_) (fun h2=>?_) <;> simp at h2
   ·simp [go_sem,index_bt,h1]
    refine SPL_intro (fun h3=>?_) (fun h3=>?_) <;> simp at h3
    ·simp [go_sem,index_bt,h1]
     refine SPL_intro (fun h4=>?_) (fun h4=>?_) <;> simp at h4
     ·simp [go_sem,sub16 k (by omega) hks]
      by_cases h17:k-i≤16
      ·rw [show decide (((k-i:Nat):Int)≤16)=true by simp;omega]
       unfold ref03_One.b30
       simp only [SPL_true]
       unfold ref03_One.b28
       simp [go_sem,wrap_succ h1 hs]
       refine hC _ _ ⟨k+1,rfl,rfl,by omega,by omega,by omega,?_⟩ (by simp [iv];omega)
       rw [hr]
       obtain ⟨n,hn⟩:∃n,i+17-k=n+1:=⟨i+16-k,by omega⟩
       rw [hn,show i+17-(k+1)=n by omega]
       conv=>lhs;unfold runS
       rw [if_pos (by simp [h1,plainN];omega)]
      ·rw [show decide (((k-i:Nat):Int)≤16)=false by simp;omega]
       exact no30 (fun h=>by omega)
     ·exact no30 (fun h=>by have:=h.2.1;simp [plainN] at this;omega)
    ·exact no30 (fun h=>by have:=h.2.1;simp [plainN] at this;omega)
   ·exact no30 (fun h=>by have:=h.2.1;simp [plainN] at this;omega)
  ·exact no30 (fun h=>by omega)
  -- an order
 have od:signN (bt s i)=false→bt s i=37→ref03_One.l36 R (.string s) (.int .i64 i) (.pointer (some ⟨q,0,none⟩)) (.int .i64 k1) w1:=by
  intro h0 h37
  have hone:oneS s i=(if (ordS s i (i+1)).2 && whole (s.extract i (ordS s i (i+1)).1) then .word 3 i (ordS s i (i+1)).1 (ordS s i (i+1)).1 else .bad (ordS s i (i+1)).1):=by
   unfold oneS
   rw [if_neg (by simp [h0]),if_pos h37]
  refine ref03_One.l36_intro _ _ _ _ _ _ (fun x w2=>∃k:Nat,x = .int .i64 k∧Chg (fun _=>False) w1 w2∧i<k∧k≤s.size∧ordS s i k=ordS s i (i+1)) (fun x _=>s.size-iv x) ⟨k1,rfl,Chg.refl _ _,by omega,by omega,by rw [hk1]⟩ ?_
  rintro _ w2 ⟨k,rfl,hc2,hik,hks,hr⟩ C hC
  have stop:∀{w3},Chg (fun _=>False) w1 w3→¬(k<s.size∧letterN (bt s k)=true)→ref03_One.b34 R (.string s) (.int .i64 i) (.pointer (some ⟨q,0,none⟩)) (.int .i64 k) w3:=by
   intro w3 hc3 hno
   have he:ordS s i (i+1)=(k,true):=by rw [←hr];unfold ordS;rw [if_neg hno]
   rw [he] at hone
   unfold ref03_One.b34
   simp [go_sem,hks,show i≤k by omega]
   refine CALL_of (ref_begun_ct _ true _) ?_
   rintro _ w4 ⟨rfl,hc4⟩
   have ht4:=(ht1.chg hc3 id).chg hc4 id
   have hc5:=(hc1.trans hc3).trans hc4
   simp only [if_true]
   cases hw:whole (s.extract i k) with
   | true =>
    simp [go_sem,ht4.c0,ht4.c1,ht4.c2,ht4.f0,ht4.f1,ht4.f2,World.cell?_setCell_other,hks,show i≤k by omega]
    exact out hc5 (wordR (kd:=3) (by rw [hone];simp [hw]))
   | false =>
    simp [go_sem,ht4.c0,ht4.c1,ht4.c2,ht4.f0,ht4.f1,ht4.f2,World.cell?_setCell_other]
    exact out hc5 (badR (by rw [hone];simp [hw]))
  unfold ref03_One.b39
  simp [go_sem]
  refine SPL_intro (fun h1=>?_) (fun h1=>?_) <;> simp at h1
  ·simp [go_sem,index_bt,h1]
   refine CALL_of (ref_letter_ct _ _) ?_
   rintro _ _ ⟨rfl,rfl⟩
   unfold ref03_One.b40
   refine SPL_intro (fun h2=>?_) (fun h2=>?_)
   ·unfold ref03_One.b38
    have e1:(0:Int)≤k+1∧(k:Int)+1≤s.size:=by omega
    have e2:(i:Int)≤k+1:=by omega
    simp [go_sem,wrap_succ h1 hs,e1,e2]
    refine CALL_of (ref_begun_ct _ false _) ?_
    rintro _ w4 ⟨rfl,hc4⟩
    have ht4:=(ht1.chg hc2 id).chg hc4 id
    have hc5:=(hc1.trans hc2).trans hc4
    simp only [Bool.false_eq_true,if_false]
    cases hw:Scan.begun (s.extract i (k+1)) with
    | true =>
     simp [go_sem,wrap_succ h1 hs]
     refine hC _ _ ⟨k+1,rfl,hc2.trans hc4,by omega,by omega,?_⟩ (by simp [iv];omega)
     rw [←hr]
     conv=>rhs;unfold ordS
     rw [if_pos ⟨h1,h2⟩,if_pos hw]
    | false =>
     have he:ordS s i (i+1)=(k,false):=by rw [←hr];unfold ordS;rw [if_pos ⟨h1,h2⟩,if_neg (by simp [hw])]
     simp [go_sem,ht4.c0,ht4.c1,ht4.c2,ht4.f0,ht4.f1,ht4.f2,World.cell?_setCell_other]
     exact out hc5 (badR (by rw [hone,he];rfl))
   ·exact stop hc2 (fun h=>by rw [h.2] at h2;cases h2)
  ·unfold ref03_One.b40
   simp only [SPL_false]
   exact stop hc2 (fun h=>by omega)
 have rest:signN (bt s i)=false→ref03_One.b8 R (.string s) (.int .i64 i) (.pointer (some ⟨q,0,none⟩)) (.int .u8 (bt s i)) (.int .i64 k1) w1:=by
  intro h0
  have h18:(letterN (bt s i) || decide (bt s i=95))=false→ref03_One.b9 R (.string s) (.int .i64 i) (.pointer (some ⟨q,0,none⟩)) (.int .u8 (bt s i)) (.int .i64 k1) (.bool false) w1:=by
   intro hl
   unfold ref03_One.b9
   simp only [SPL_false]
   unfold ref03_One.b18
   simp [go_sem]
   unfold ref03_One.b19
   refine SPL_intro (fun h1=>?_) (fun h1=>?_) <;> simp at h1
   ·exact qt h0 (by omega)
   ·unfold ref03_One.b31
    simp [go_sem]
    unfold ref03_One.b32
    refine SPL_intro (fun h2=>?_) (fun h2=>?_) <;> simp at h2
    ·exact od h0 (by omega)
    ·unfold ref03_One.b41 ref03_One.b3
     simp [go_sem,ht1.c0,ht1.c1,ht1.c2,ht1.f0,ht1.f1,ht1.f2,World.cell?_setCell_other]
     refine out hc1 (badR ?_)
     unfold oneS
     rw [if_neg (by simp [h0]),if_neg (by omega),if_neg (by omega),if_neg (by simp [hl])]
  have hname:(letterN (bt s i) || decide (bt s i=95))=true→ref03_One.b9 R (.string s) (.int .i64 i) (.pointer (some ⟨q,0,none⟩)) (.int .u8 (bt s i)) (.int .i64 k1) (.bool true) w1:=by
   intro hl
   unfold ref03_One.b9
   simp only [SPL_true]
   have hne:¬bt s i=37∧¬bt s i=39:=by
    simp [letterN] at hl
    omega
   exact nm h0 hne.1 hne.2 hl
  unfold ref03_One.b8
  refine CALL_of (ref_letter_ct _ _) ?_
  rintro _ _ ⟨rfl,rfl⟩
  refine SPL_intro (fun h1=>?_) (fun h1=>?_)
  ·exact hname (by simp [h1])
  ·simp [go_sem]
   by_cases h95:bt s i=95
   ·rw [show (((bt s i:Nat):Int) == 95)=true by simp;omega]
    exact hname (by simp [h95])
   ·rw [show (((bt s i:Nat):Int) == 95)=false by simp;omega]
    exact h18 (by simp [h1,h95])
 have first:∀bl,bl=signN (bt s i)→ref03_One.b6 R (.string s) (.int .i64 i) (.pointer (some ⟨q,0,none⟩)) (.int .u8 (bt s i)) (.int .i64 k1) (.bool bl) w1:=by
  intro bl hbl
  unfold ref03_One.b6
  refine SPL_intro (fun h1=>?_) (fun h1=>?_) <;> rw [hbl] at h1
  ·unfold ref03_One.b7
   simp [go_sem,ht1.c0,ht1.c1,ht1.c2,ht1.f0,ht1.f1,ht1.f2,World.cell?_setCell_other,show i≤k1 by omega,show k1≤s.size by omega]
   exact out hc1 (wordR (kd:=4) (by unfold oneS;rw [if_pos h1,hk1]))
  ·exact rest h1
 unfold ref03_One.b5
 simp [go_sem]
 refine SPL_intro (fun h1=>?_) (fun h1=>?_) <;> simp at h1
 ·exact first _ (by simp [signN];omega)
 simp [go_sem]
 refine SPL_intro (fun h2=>?_) (fun h2=>?_) <;> simp at h2
 ·exact first _ (by simp [signN];omega)
 simp [go_sem]
 exact first _ (by rw [Bool.eq_iff_iff];simp [signN];omega)
end Go.Proofs.YtckbgeedlobfaaaDoor

/-
  The document's answer: all words.
-/
namespace Go.Proofs.YtckbgeedlobfaaaDoor
open Go.Px Go.Px.Scan Go.RowKit

theorem info42:(Tryd.prog.info? 46).map (fun i=>(i.zero,i.size,i.bytes))=some (some (.agg #[.int .i64 0,.string ⟨#[]⟩,.int .i64 0]),3,32):=by kernel_rfl

theorem ref_All_ct {s:ByteArray} (hs:s.size≤maxLen) (w:World):Ct Tryd.prog ref03_All.id #[.string s] w fun v w' =>
  (∃sl,v = .tuple #[sl,badV (wordsS s).2]∧w'.ownsRow w.heap.size 46 3 sl (wordsS s).1.length ((wordsS s).1.flatMap encW))∧Chg (fun _=>False) w w':=by
 refine ref03_All.ct fun R hR=>?_
 unfold ref03_All.run ref03_All.b1
 simp [go_sem]
 refine SPL_intro (fun h=>?_) (fun h=>?_) <;> simp at h
 ·have h':8192<s.size:=by omega
  refine hR _ _ ⟨⟨.slice none 0 0,?_,?_⟩,Chg.refl _ _⟩
  ·unfold wordsS;rw [if_pos h'];rfl
  ·unfold wordsS;rw [if_pos h'];exact World.ownsRow_nil _ _ _ _
 ·have h':¬8192<s.size:=by omega
  have hws:wordsS s=allS s 0:=by unfold wordsS;rw [if_neg h']
  unfold ref03_All.b4
  refine CALL_of (ref_Skip_ct 0 (by omega) hs w) ?_
  rintro _ _ ⟨rfl,rfl⟩
  refine ref03_All.l6_intro _ _ _ _ _ (fun x y w1=>∃(j:Nat) (pre:List Wd),y = .int .i64 (skipS s false j:Nat)∧j≤s.size∧w1.ownsRow w.heap.size 46 3 x pre.length (pre.flatMap encW)∧Chg (fun _=>False) w w1∧pre++(allS s j).1=(allS s 0).1∧(allS s j).2=(allS s 0).2)
   (fun _ y _=>s.size-iv y) ⟨0,[],rfl,by omega,World.ownsRow_nil _ _ _ _,Chg.refl _ _,rfl,rfl⟩ ?_
  rintro x _ w1 ⟨j,pre,rfl,hj,ho,hc1,ha1,ha2⟩ C hC
  have hsl:=skip_le s false j hj
  unfold ref03_All.b7
  generalize hap:Builtin.append_=ap
  simp [go_sem]
  refine SPL_intro (fun h1=>?_) (fun h1=>?_) <;> simp at h1
  ·refine CALL_of (ref_One_ct h1 hs w1) ?_
   rintro v w2 ⟨hv,hc2⟩
   have ho2:=ownsRow_chg ho hc2 (fun _ _=>id)
   have hc3:=hc1.trans hc2
   unfold OneR at hv
   cases h4:oneS s (skipS s false j) with
   | bad n =>
    rw [h4] at hv
    subst hv
    rw [all_bad h1 h4] at ha1 ha2
    unfold wdV'
    simp [go_sem]
    refine hR _ _ ⟨⟨x,by rw [hws,←ha2];rfl,?_⟩,hc3.alloc _⟩
    rw [hws,←ha1]
    simpa using ownsRow_chg ho2 ((Chg.refl (fun _=>False) _).alloc _) (fun _ _=>id)
   | word kd a e n =>
    rw [h4] at hv
    subst hv
    rw [all_word h1 h4] at ha1 ha2
    have hone:=one_word h1 h4
    unfold wdV'
    simp [go_sem]
    rw [←hap]
    clear hap ap
    obtain ⟨i0,hi,hz0,hz1,hz2⟩:=info_parts info42
    generalize hw3:(w2.alloc (Obj.cells #[Value.int IntKind.i64 kd,Value.string (s.extract a e),Value.int IntKind.i64 (skipS s false j)] 46)).alloc _=w3
    have hlen:=all_len s 0 (Nat.zero_le _)
    rw [←ha1] at hlen
    simp only [List.length_append,List.length_cons] at hlen
    have hn:∀j' u,(encW ((kd:Int),s.extract a e,(skipS s false j:Int)))[j']?=some u→w3.cell? ((⟨w2.heap.size+1,0,none⟩:Addr).add j')=some u:=by
     rw [←hw3]
     exact alloc_cells (w2.alloc _) (encW ((kd:Int),s.extract a e,(skipS s false j:Int))) 46 (by simp)
    have hc23:Chg (fun _=>False) w2 w3:=by rw [←hw3];exact ((Chg.refl _ _).alloc _).alloc _
    have ho3:=ownsRow_chg ho2 hc23 (fun _ _=>id)
    have hs3:w3.heap.size=w2.heap.size+2:=by rw [←hw3];simp
    clear hw3
    have hw12:=hc1.size
    have hw22:=hc2.size
    refine append_own 41 41 46 Tryd.underlying41 hi hz0 hz1 hz2 rfl (by omega) ho3 rfl hn ?_ (by unfold maxLen;omega) (by unfold maxBytes;omega) (by omega) ?_
    ·intro u hu
     simp [encW] at hu
     rcases hu with rfl | rfl | rfl <;> rfl
    intro g c3 w4 ho4 hg4 hgb
    have hc34:Chg (fun i=>w.heap.size≤i) w3 w4:=grown_chg hg4 fun k hk=>(ownsRow_block ho3 hk).1
    refine CALL_of (ref_Skip_ct n hone.2.1 hs w4) ?_
    rintro _ _ ⟨rfl,rfl⟩
    refine hC _ _ _ ⟨n,pre++[((kd:Int),s.extract a e,(skipS s false j:Int))],rfl,hone.2.1,?_,(hc3.trans hc23).trans' hc34 (fun i hi h=>by omega),?_,?_⟩ ?_
    ·simpa using ho4
    ·rw [←ha1];simp
    ·rw [←ha2]
    ·have:=skip_ge s false n
     simp [iv];omega
  ·unfold ref03_All.b3
   rw [all_end (by omega)] at ha1 ha2
   refine hR _ _ ⟨⟨x,by rw [hws,←ha2];rfl,?_⟩,hc1⟩
   rw [hws,←ha1]
   simpa using ho
end Go.Proofs.YtckbgeedlobfaaaDoor

/-
  The document's text: within.
-/
namespace Go.Px.Spec
open Go.Px Go.Px.Scan
def withinX (x:Rx) (w:Wd):Option Rx :=
 if isSg w sBar then some (anotherX x)
 else if isSg w sSemi then some {x with ph:=9 }
 else if x.ph=6∧isTB w then some {x with rows:=modLast x.rows fun r=>{r with words:=r.words++[w] } }
 else if x.ph=6∧isOr w kPrec then some {x with ph:=7,rows:=modLast x.rows fun r=>{r with said:=1 } }
 else if x.ph=6∧isOr w kNone then some {x with ph:=8,rows:=modLast x.rows fun r=>{r with said:=2 } }
 else none
end Go.Px.Spec
namespace Go.Proofs.YtckbgeedlobfaaaDoor
open Go.Px Go.Px.Scan Go.Px.Spec Go.RowKit
attribute [-go_sem] Builtin.append_ ref04_Text_within.b3 ref04_Text_within.b7 ref04_Text_within.b10 ref04_Text_within.b13 ref04_Text_within.b16 ref04_Text_within.b18 ref04_Text_within.b18_1 ref04_Text_within.b17 ref04_Text_within.b17_1 ref04_Text_within.b17_2 ref04_Text_within.b15 ref04_Text_within.b14 ref04_Text_within.b14_1 ref04_Text_within.b14_2 ref04_Text_within.b12 ref04_Text_within.b11 ref04_Text_within.b11_1 ref04_Text_within.b11_2 ref04_Text_within.b9 ref04_Text_within.b8 ref04_Text_within.b8_1 ref04_Text_within.b6 ref04_Text_within.b5 ref04_Text_within.b5_1

section
variable {F:Nat→Prop} {w w1:World} {R:EP} {tb g:Nat} {x:Rx} {D:TD} {done:List RowS} {r:RowS}

theorem zip_last {us:List Value} (h:us.length=done.length) (v:Value):((done++[r]).zip (us++[v])).flatMap encRf=(done.zip us).flatMap encRf++encRf (r,v):=by
 rw [List.zip_append h.symm];simp
theorem zip_len {us:List Value} (h:us.length=done.length):((done.zip us).flatMap encRf).length=done.length*4:=by
 have:∀(l:List (RowS×Value)),(l.flatMap encRf).length=l.length*4:=fun l=>by
  induction l with
  | nil=>rfl
  | cons y l ih=>rw [List.flatMap_cons,List.length_append,ih,List.length_cons];show 4+_=_;omega
 rw [this,List.length_zip,h,Nat.min_self]

theorem row_last (s:St F w w1 (txL tb x D)) (hx:x.rows=done++[r]):D.us.length=done.length∧∃g,D.Ar=some ⟨g,0,none⟩∧w1.cell? ⟨g,done.length*4,none⟩=some (.string r.left)∧w1.cell? ⟨g,done.length*4+1,none⟩=some (.slice D.Ax r.words.length D.cx) ∧
  w1.cell? ⟨g,done.length*4+2,none⟩=some (.int .i64 r.said)∧w1.cell? ⟨g,done.length*4+3,none⟩=some (.string r.by_)∧∀j,w1.frozen? ⟨g,j,none⟩=false:=by
 have hul:D.us.length=done.length:=by rw [us_len (rows:=x.rows) (us:=D.us) s,hx];simp
 obtain ⟨F2,ho2,_⟩:=s.get (k:=3) rfl
 have hz:(x.rows.zip (D.us++[.slice D.Ax (lw x.rows).length D.cx]))[done.length]?=some (r,.slice D.Ax r.words.length D.cx):=by
  rw [hx,List.zip_append hul.symm,lw_snoc]
  simp [hul]
 obtain ⟨g,hg,hc,hf,_⟩:=row_elem ho2 (fun _ _=>rfl) (by omega) hz
 exact ⟨hul,g,hg,hc 0 _ rfl,hc 1 _ rfl,hc 2 _ rfl,hc 3 _ rfl,hf⟩

/-- A field of the last row is set. -/
theorem set_field (s:St F w w1 (txL tb x D)) (hx:x.rows=done++[r]) (hg:D.Ar=some ⟨g,0,none⟩) {j:Nat} {u:Value} {r':RowS} (hj:j<4) (hw:r'.words=r.words) (he:∀v,encRf (r',v)=(encRf (r,v)).set j u) :
  St F w (w1.setCell ⟨g,done.length*4+j,none⟩ u) (txL tb {x with rows:=done++[r'] } D):=by
 have hul:=(row_last s hx).1
 have hD:D={D with Ar:=some ⟨g,0,none⟩ }:=by rw [←hg]
 rw [hD] at s ⊢
 have s2:=s.setRow 3 rfl (done.length*4+j) u
 have e1:((x.rows.zip (D.us++[.slice D.Ax (lw x.rows).length D.cx])).flatMap encRf).set (done.length*4+j) u=(((done++[r']).zip (D.us++[.slice D.Ax (lw (done++[r'])).length D.cx])).flatMap encRf):=by
  rw [hx,zip_last hul,zip_last hul,List.set_append_right _ _ (by rw [zip_len hul];omega),zip_len hul,Nat.add_sub_cancel_left,lw_snoc,lw_snoc,hw,he]
 have e2:(done++[r']).length=x.rows.length:=by rw [hx];simp
 have e3:(done++[r']).dropLast=x.rows.dropLast:=by rw [hx];simp
 have e4:lw (done++[r'])=lw x.rows:=by rw [hx,lw_snoc,lw_snoc,hw]
 unfold txL txBox at s2 ⊢
 simp only [e2,e3,e4]
 rw [e4] at e1
 rw [←e1]
 exact s2

/-- another, wherever it is called. -/
theorem another_ctS {G:Nat→Prop} {W w:World} (hb:XB x) (s:St G W w (txL tb x D)):Ct Tryd.prog ref04_Text_another.id #[.pointer (some ⟨tb,0,none⟩)] w fun v w'=>v = .tuple #[]∧∃D',St G W w' (txL tb (anotherX x) D'):=by
 obtain ⟨F,ho,hF,hs'⟩:=s.group.opn (k:=0) (c0:=Ch.all (txL tb x D)) rfl
 refine (another_ct hb (St.enter ho)).mono ?_
 rintro v w' ⟨rfl,D',s'⟩
 exact ⟨rfl,D',St.flat (L:=[]) (L':=txL tb (anotherX x) D') (hs' w' (Ch.all (txL tb (anotherX x) D')) s'.chg s'.leave)⟩

theorem within_ct {wd:Wd} (hb:XB x) (hx:x.rows=done++[r]) (s:St F w w (txL tb x D)):Ct Tryd.prog ref04_Text_within.id #[.pointer (some ⟨tb,0,none⟩),wdV wd] w (XEnd F w tb (withinX x wd)):=by
 refine ref04_Text_within.ct fun R hR=>?_
 unfold ref04_Text_within.run
 rw [show wdV wd = .agg #[.int .i64 wd.1,.string wd.2.1,.int .i64 wd.2.2] from rfl]
 obtain ⟨hul,g,hg,_⟩:=row_last s hx
 simp -dsimp [go_sem]
 have hc1:Chg noB w (w.alloc (.cells #[.int .i64 wd.1,.string wd.2.1,.int .i64 wd.2.2] 46)):=(Chg.refl noB w).alloc _
 have ht:=new46 (w:=w) wd
 have s1:=s.old hc1
 have hqn:w.heap.size≠tb∧w.heap.size≠g:=by
  have h1:=(s.box 0 rfl).2.2
  obtain ⟨_,_,g2,hg2,hc2,_⟩:True∧True∧∃g2,D.Ar=some ⟨g2,0,none⟩∧w.cell? ⟨g2,done.length*4,none⟩=some (.string r.left)∧True:=by
   obtain ⟨_,g2,h3,h4,_⟩:=row_last s hx;exact ⟨trivial,trivial,g2,h3,h4,trivial⟩
  rw [hg] at hg2
  injection hg2 with hg2;injection hg2 with hg2
  subst hg2
  have h2:=World.block_lt_of_cell? _ _ hc2
  simp at h2
  omega
 generalize w.alloc (.cells #[.int .i64 wd.1,.string wd.2.1,.int .i64 wd.2.2] 46)=w1 at s1 hc1 ht ⊢
 generalize w.heap.size=q at ht hqn ⊢
 have d0:=ht.c0
 have d1:=ht.c1
 have d2:=ht.c2
 have y1:=(s1.box 0 rfl).1
 simp [boxAt,txBox] at y1
 have hrw:=hb.rows
 have hlen:x.rows.length=done.length+1:=by rw [hx];simp
 have hi:done.length<x.rows.length:=by omega
 rw [hg] at y1
 have wk:IntKind.i64.wrap ((x.rows.length:Int)-1)=(done.length:Int):=by rw [hlen,IntWalk.i64_in _ (by omega)];omega
 simp -dsimp [go_sem,y1,wk,hi,Nat.not_le.2 hi]
 have s2:=s1.old (Chg.refl noB w1).drew
 have e0:w1.drew.cell? ⟨q,0,none⟩=some (.int .i64 wd.1):=by simpa using d0
 have e1:w1.drew.cell? ⟨q,1,none⟩=some (.string wd.2.1):=by simpa using d1
 have e2:w1.drew.cell? ⟨q,2,none⟩=some (.int .i64 wd.2.2):=by simpa using d2
 generalize w1.drew=w2 at s2 e0 e1 e2 ⊢
 clear ht d0 d1 d2 s1 hc1
 have y2:=(s2.box 0 rfl).1
 simp [boxAt,txBox] at y2
 have f0:=(s2.box 0 rfl).2.1 0
 obtain ⟨_,g2,hg2,c0,c1,c2,c3,cf⟩:=row_last s2 hx
 rw [hg] at hg2
 injection hg2 with hg2;injection hg2 with hg2
 subst hg2
 have hxl:∀f:RowS→RowS,modLast x.rows f=done++[f r]:=fun f=>by rw [hx,modLast_snoc]
 have no:∀w',St F w w' (txL tb x D)→withinX x wd=none→R (.returned (.bool false)) w':=fun w' hc h=>hR _ _ (by unfold XEnd;rw [h];exact ⟨rfl,x,D,hc⟩)
 have yes:∀x' w' D',withinX x wd=some x'→St F w w' (txL tb x' D')→R (.returned (.bool true)) w':=fun x' w' D' h s'=>hR _ _ (by unfold XEnd;rw [h];exact ⟨rfl,D',s'⟩)
 have lev:∀(k:Int) (t:ByteArray),isOr wd t=true↔wd.1=3∧wd.2.1=t:=fun k t=>by simp [isOr]
 have hT:isTB wd=true↔wd.1=1∨wd.1=2:=by simp [isTB]
 have hS:∀t,isSg wd t=true↔wd.1=4∧wd.2.1=t:=fun t=>by simp [isSg]
  -- %none
 have k18:∀b:Bool,(b=true↔x.ph=6∧isOr wd kNone=true)→isSg wd sBar=false→isSg wd sSemi=false→¬(x.ph=6∧isTB wd=true)→¬(x.ph=6∧isOr wd kPrec=true) →
   ref04_Text_within.b18 R (.pointer (some ⟨tb,0,none⟩)) (.pointer (some ⟨g,done.length*4,none⟩)) (.bool b) w2:=fun b hb1 n1 n2 n3 n4=>by
  unfold ref04_Text_within.b18
  refine SPL_intro (fun h=>?_) (fun h=>?_)
  ·have s3:=set_field s2 hx hg (j:=2) (u := .int .i64 2) (r':={r with said:=2 }) (by omega) rfl (fun v=>rfl)
   have s4:=s3.set 0 rfl 0 (.int .i64 8)
   have cf2:=cf (done.length*4+2)
   unfold ref04_Text_within.b18_1
   simp -dsimp [go_sem,c2,cf2,y2,f0]
   unfold ref04_Text_within.b3
   refine yes {x with ph:=8,rows:=done++[{r with said:=2 }] } _ D ?_ s4
   unfold withinX
   rw [if_neg (by rw [n1];decide),if_neg (by rw [n2];decide),if_neg n3,if_neg n4,if_pos (hb1.1 h),hxl]
  ·refine no _ s2 ?_
   unfold withinX
   rw [if_neg (by rw [n1];decide),if_neg (by rw [n2];decide),if_neg n3,if_neg n4,if_neg (fun h2=>by rw [hb1.2 h2] at h;cases h)]
 have k17:isSg wd sBar=false→isSg wd sSemi=false→¬(x.ph=6∧isTB wd=true)→¬(x.ph=6∧isOr wd kPrec=true) →
   ref04_Text_within.b17 R (.pointer (some ⟨tb,0,none⟩)) (.pointer (some ⟨q,0,none⟩)) (.pointer (some ⟨g,done.length*4,none⟩)) w2:=fun n1 n2 n3 n4=>by
  unfold ref04_Text_within.b17
  simp -dsimp [go_sem,y2]
  refine SPL_intro (fun h=>?_) (fun h=>?_) <;> simp at h
  ·have h6:x.ph=6:=by omega
   unfold ref04_Text_within.b17_2
   simp -dsimp [go_sem,e1]
   refine SPL_intro (fun h=>?_) (fun h=>?_)
   ·have et:wd.2.1=kNone:=eqL (by simpa using h)
    unfold ref04_Text_within.b17_1
    simp -dsimp [go_sem,e0]
    refine k18 _ ?_ n1 n2 n3 n4
    rw [lev 0];simp [h6,et]
   ·have et:wd.2.1≠kNone:=fun e=>by rw [e] at h;simp [kNone,toL] at h
    refine k18 false ?_ n1 n2 n3 n4
    rw [lev 0];simp [et]
  ·refine k18 false ?_ n1 n2 n3 n4
   have:x.ph≠6:=by omega
   simp [this]
 have k15:∀b:Bool,(b=true↔x.ph=6∧isOr wd kPrec=true)→isSg wd sBar=false→isSg wd sSemi=false→¬(x.ph=6∧isTB wd=true) →
   ref04_Text_within.b15 R (.pointer (some ⟨tb,0,none⟩)) (.pointer (some ⟨q,0,none⟩)) (.pointer (some ⟨g,done.length*4,none⟩)) (.bool b) w2:=fun b hb1 n1 n2 n3=>by
  unfold ref04_Text_within.b15
  refine SPL_intro (fun h=>?_) (fun h=>?_)
  ·have s3:=set_field s2 hx hg (j:=2) (u := .int .i64 1) (r':={r with said:=1 }) (by omega) rfl (fun v=>rfl)
   have s4:=s3.set 0 rfl 0 (.int .i64 7)
   have cf2:=cf (done.length*4+2)
   unfold ref04_Text_within.b16
   simp -dsimp [go_sem,c2,cf2,y2,f0]
   unfold ref04_Text_within.b3
   refine yes {x with ph:=7,rows:=done++[{r with said:=1 }] } _ D ?_ s4
   unfold withinX
   rw [if_neg (by rw [n1];decide),if_neg (by rw [n2];decide),if_neg n3,if_pos (hb1.1 h),hxl]
  ·exact k17 n1 n2 n3 fun h2=>by rw [hb1.2 h2] at h;cases h
 have k14:isSg wd sBar=false→isSg wd sSemi=false→¬(x.ph=6∧isTB wd=true) →
   ref04_Text_within.b14 R (.pointer (some ⟨tb,0,none⟩)) (.pointer (some ⟨q,0,none⟩)) (.pointer (some ⟨g,done.length*4,none⟩)) w2:=fun n1 n2 n3=>by
  unfold ref04_Text_within.b14
  simp -dsimp [go_sem,y2]
  refine SPL_intro (fun h=>?_) (fun h=>?_) <;> simp at h
  ·have h6:x.ph=6:=by omega
   unfold ref04_Text_within.b14_2
   simp -dsimp [go_sem,e1]
   refine SPL_intro (fun h=>?_) (fun h=>?_)
   ·have et:wd.2.1=kPrec:=eqL (by simpa using h)
    unfold ref04_Text_within.b14_1
    simp -dsimp [go_sem,e0]
    refine k15 _ ?_ n1 n2 n3
    rw [lev 0];simp [h6,et]
   ·have et:wd.2.1≠kPrec:=fun e=>by rw [e] at h;simp [kPrec,toL] at h
    refine k15 false ?_ n1 n2 n3
    rw [lev 0];simp [et]
  ·refine k15 false ?_ n1 n2 n3
   have:x.ph≠6:=by omega
   simp [this]
  -- a word of the row
 have k12:∀b:Bool,(b=true↔x.ph=6∧isTB wd=true)→isSg wd sBar=false→isSg wd sSemi=false →
   ref04_Text_within.b12 R (.pointer (some ⟨tb,0,none⟩)) (.pointer (some ⟨q,0,none⟩)) (.pointer (some ⟨g,done.length*4,none⟩)) (.bool b) w2:=fun b hb1 n1 n2=>by
  unfold ref04_Text_within.b12
  refine SPL_intro (fun h=>?_) (fun h=>?_)
  ·have hlw:=hb.lw
   rw [hx,lw_snoc] at hlw
   obtain ⟨wa,hwa⟩:∃wa,w2.alloc (.cells #[.int .i64 wd.1,.string wd.2.1,.int .i64 wd.2.2] 46)=wa:=⟨_,rfl⟩
   have hca:Chg noB w2 wa:=by rw [←hwa];exact (Chg.refl noB w2).alloc _
   have ya:wa.cell? ⟨g,done.length*4+1,none⟩=some (.slice D.Ax r.words.length D.cx):=hca.at c1 id
   have hk5:(txL tb x D)[5]?=some (rowC 46 3 D.Ax r.words.length D.cx (r.words.flatMap encW)):=by show some (rowC 46 3 D.Ax (lw x.rows).length D.cx _)=_;rw [hx,lw_snoc]
   unfold ref04_Text_within.b13
   simp -dsimp [go_sem,c1,e0,e1,e2,hwa,ya]
   rw [←hwa]
   refine s2.append1d 5 hk5 Tryd.underlying41 info42 rfl (by omega) (news:=[.int .i64 wd.1,.string wd.2.1,.int .i64 wd.2.2]) rfl (by simp [Value.oneCell']) (by unfold maxLen;omega) (by unfold maxBytes;omega) ?_
   intro g5 cap w3 s3
      -- the row's own field
   obtain ⟨F2,ho2,_⟩:=s3.get (k:=3) rfl
   have hz:(x.rows.zip (D.us++[.slice D.Ax (lw x.rows).length D.cx]))[done.length]?=some (r,.slice D.Ax r.words.length D.cx):=by
    rw [hx,List.zip_append hul.symm,lw_snoc]
    simp [hul]
   obtain ⟨g3,hg3,hc3,hf3,_⟩:=row_elem ho2 (fun _ _=>rfl) (by omega) hz
   rw [hg] at hg3
   injection hg3 with hg3;injection hg3 with hg3
   subst hg3
   have z1:w3.cell? ⟨g,done.length*4+1,none⟩=some (.slice D.Ax r.words.length D.cx):=hc3 1 _ rfl
   have zf:=hf3 (done.length*4+1)
   simp -dsimp [go_sem,z1,zf]
   unfold ref04_Text_within.b3
   have hk3:((txL tb x D).set 5 (rowC 46 3 (some ⟨g5,0,none⟩) (r.words.length+1) cap (r.words.flatMap encW++[.int .i64 wd.1,.string wd.2.1,.int .i64 wd.2.2])))[3]?=some (rowC 124 4 (some ⟨g,0,none⟩) x.rows.length D.cr ((x.rows.zip (D.us++[.slice D.Ax (lw x.rows).length D.cx])).flatMap encRf)):=by
    rw [←hg];rfl
   have s4:=s3.setRow 3 hk3 (done.length*4+1) (.slice (some ⟨g5,0,none⟩) (r.words.length+1) cap)
   refine yes {x with rows:=done++[{r with words:=r.words++[wd] }] } _ {D with Ar:=some ⟨g,0,none⟩,Ax:=some ⟨g5,0,none⟩,cx:=cap } ?_ ?_
   ·unfold withinX
    rw [if_neg (by rw [n1];decide),if_neg (by rw [n2];decide),if_pos (hb1.1 h),hxl]
   ·have q1:((x.rows.zip (D.us++[.slice D.Ax (lw x.rows).length D.cx])).flatMap encRf).set (done.length*4+1) (.slice (some ⟨g5,0,none⟩) (r.words.length+1) cap)=((done++[({r with words:=r.words++[wd] }:RowS)]).zip (D.us++[.slice (some ⟨g5,0,none⟩) (r.words.length+1) cap])).flatMap encRf:=by
     rw [hx,zip_last hul,zip_last hul,List.set_append_right _ _ (by rw [zip_len hul];omega),zip_len hul,Nat.add_sub_cancel_left];rfl
    rw [q1] at s4
    have q2:(done++[({r with words:=r.words++[wd] }:RowS)]).length=x.rows.length:=by rw [hx];simp
    have q3:(done++[({r with words:=r.words++[wd] }:RowS)]).dropLast=x.rows.dropLast:=by rw [hx];simp
    have q4:lw (done++[({r with words:=r.words++[wd] }:RowS)])=r.words++[wd]:=lw_snoc _ _
    have q5:(r.words++[wd]).flatMap encW=r.words.flatMap encW++[.int .i64 wd.1,.string wd.2.1,.int .i64 wd.2.2]:=by rw [List.flatMap_append];rfl
    have q6:(r.words++[wd]).length=r.words.length+1:=by simp
    unfold txL txBox at s4 ⊢
    simp only [q2,q3,q4,q5,q6]
    rw [←hg] at *
    exact s4
  ·exact k14 n1 n2 fun h2=>by rw [hb1.2 h2] at h;cases h
 have k11:isSg wd sBar=false→isSg wd sSemi=false →
   ref04_Text_within.b11 R (.pointer (some ⟨tb,0,none⟩)) (.pointer (some ⟨q,0,none⟩)) (.pointer (some ⟨g,done.length*4,none⟩)) w2:=fun n1 n2=>by
  unfold ref04_Text_within.b11
  simp -dsimp [go_sem,y2]
  refine SPL_intro (fun h=>?_) (fun h=>?_) <;> simp at h
  ·have h6:x.ph=6:=by omega
   unfold ref04_Text_within.b11_2
   simp -dsimp [go_sem,e0]
   refine SPL_intro (fun h=>?_) (fun h=>?_) <;> simp at h
   ·exact k12 true (by rw [hT];simp [h6,h]) n1 n2
   ·unfold ref04_Text_within.b11_1
    simp -dsimp [go_sem,e0]
    exact k12 _ (by rw [hT];simp [h6,h]) n1 n2
  ·have:x.ph≠6:=by omega
   exact k12 false (by simp [this]) n1 n2
 have k9:∀b:Bool,(b=isSg wd sSemi)→isSg wd sBar=false →
   ref04_Text_within.b9 R (.pointer (some ⟨tb,0,none⟩)) (.pointer (some ⟨q,0,none⟩)) (.pointer (some ⟨g,done.length*4,none⟩)) (.bool b) w2:=fun b hb1 n1=>by
  unfold ref04_Text_within.b9
  refine SPL_intro (fun h=>?_) (fun h=>?_)
  ·unfold ref04_Text_within.b10
   simp -dsimp [go_sem,y2,f0]
   unfold ref04_Text_within.b3
   refine yes {x with ph:=9 } _ D ?_ (s2.set 0 rfl 0 (.int .i64 9))
   unfold withinX
   rw [if_neg (by rw [n1];decide),if_pos (by rw [←hb1,h])]
  ·exact k11 n1 (by rw [←hb1,h])
 have k8:isSg wd sBar=false →
   ref04_Text_within.b8 R (.pointer (some ⟨tb,0,none⟩)) (.pointer (some ⟨q,0,none⟩)) (.pointer (some ⟨g,done.length*4,none⟩)) w2:=fun n1=>by
  unfold ref04_Text_within.b8
  simp -dsimp [go_sem,e0]
  refine SPL_intro (fun h=>?_) (fun h=>?_) <;> simp at h
  ·unfold ref04_Text_within.b8_1
   simp -dsimp [go_sem,e1]
   refine k9 _ ?_ n1
   rw [Bool.eq_iff_iff,hS];simp only [h,true_and]
   constructor
   ·intro h;exact eqL (by simpa using h)
   ·intro h;rw [h];simp [sSemi,toL]
  ·refine k9 false ?_ n1
   rw [Bool.eq_iff_iff,hS];simp [h]
 have k6:∀b:Bool,(b=isSg wd sBar) →
   ref04_Text_within.b6 R (.pointer (some ⟨tb,0,none⟩)) (.pointer (some ⟨q,0,none⟩)) (.pointer (some ⟨g,done.length*4,none⟩)) (.bool b) w2:=fun b hb1=>by
  unfold ref04_Text_within.b6
  refine SPL_intro (fun h=>?_) (fun h=>?_)
  ·unfold ref04_Text_within.b7
   refine CALL_of (another_ctS hb s2) ?_
   rintro _ w3 ⟨rfl,D',s3⟩
   unfold ref04_Text_within.b3
   refine yes (anotherX x) _ D' ?_ s3
   unfold withinX
   rw [if_pos (by rw [←hb1,h])]
  ·exact k8 (by rw [←hb1,h])
 unfold ref04_Text_within.b5
 simp -dsimp [go_sem,e0]
 refine SPL_intro (fun h=>?_) (fun h=>?_) <;> simp at h
 ·unfold ref04_Text_within.b5_1
  simp -dsimp [go_sem,e1]
  refine k6 _ ?_
  rw [Bool.eq_iff_iff,hS];simp only [h,true_and]
  constructor
  ·intro h;exact eqL (by simpa using h)
  ·intro h;rw [h];simp [sBar,toL]
 ·refine k6 false ?_
  rw [Bool.eq_iff_iff,hS];simp [h]
end
end Go.Proofs.YtckbgeedlobfaaaDoor
