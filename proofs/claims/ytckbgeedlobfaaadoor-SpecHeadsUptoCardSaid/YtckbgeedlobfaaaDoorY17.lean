/-
  Texts of this claim: Sp1, Sp2, Gs1, Gs2, Gm1, Gs3, Gs3b, Gs4, Gs5, Gs6, Gm2, Gm3.
-/
import Derived.Test.YtckbgeedlobfaaaDoorY05
import Derived.Test.YtckbgeedlobfaaaDoorY16
import Derived.Test.YtckbgeedlobfaaaDoorY02
import Derived.Test.YtckbgeedlobfaaaDoorY09
import Derived.Test.YtckbgeedlobfaaaDoorY10
import Derived.Lib.OthersKept
import Derived.Laws.RangeAny
import Derived.Test.YtckbgeedlobfaaaDoorY08
import Derived.Test.YtckbgeedlobfaaaDoorY06
import Derived.Lib.UnsafeStr
import Derived.Lib.BufferWrite
import Derived.Laws.MakeOwn
set_option maxHeartbeats 1000000
set_option linter.unusedSimpArgs false
set_option linter.unusedVariables false
set_option maxRecDepth 100000
/-
  The reader's small functions: now, fail, is, need, isT, name.
-/
namespace Go.Proofs.YtckbgeedlobfaaaDoor
open Go.Px Go.Px.Scan Go.Px.Spec Go.RowKit
attribute [-go_sem] Builtin.append_

/-- The reader's words, its place, and the end. -/
structure Rdr (w:World) (b:Nat) (A:Option Addr) (c:Nat) (ws:List Wd) (i:Nat) (e:Int):Prop where
 c0:w.cell? ⟨b,0,none⟩=some (.slice A ws.length c)
 c1:w.cell? ⟨b,1,none⟩=some (.int .i64 i)
 c2:w.cell? ⟨b,2,none⟩=some (.int .i64 e)
 f1:w.frozen? ⟨b,1,none⟩=false
 lt:b<w.heap.size
 row:(rowC 91 3 A ws.length c (ws.flatMap encW)).ok w (fun _=>True)
 le:i≤ws.length
 sz:ws.length≤10000

theorem Rdr.chg {w w':World} {b:Nat} {A:Option Addr} {c:Nat} {ws:List Wd} {i:Nat} {e:Int} (h:Rdr w b A c ws i e) (hc:Chg noB w w'):Rdr w' b A c ws i e where
 c0:=(hc.cell (p:=⟨b,0,none⟩) h.lt id).trans h.c0
 c1:=(hc.cell (p:=⟨b,1,none⟩) h.lt id).trans h.c1
 c2:=(hc.cell (p:=⟨b,2,none⟩) h.lt id).trans h.c2
 f1:=(hc.frozen (p:=⟨b,1,none⟩) h.lt id).trans h.f1
 lt:=Nat.lt_of_lt_of_le h.lt hc.size
 row:=(rowC 91 3 A ws.length c (ws.flatMap encW)).keep h.row hc (fun _ _ _=>id) (fun _ _ _=>trivial)
 le:=h.le
 sz:=h.sz

theorem RES_pan {X:Pan} {K:Value→World→Prop} {v:Value} {w:World}:RES X (.halt (.panic v) w) K=X [{v,recovered:=false }] w:=by unfold RES;rfl
attribute [go_sem] RES_pan

theorem toList_inj {a b:ByteArray}:a.toList=b.toList↔a=b:=⟨fun h=>bs_ext (by rwa [ByteArray.toList_eq,ByteArray.toList_eq] at h),fun h=>by rw [h]⟩

/-- What is thrown at a place. -/
def badP (a:Int):List PanicEntry:=[{v := .iface 95 (.agg #[.int .i64 a]),recovered:=false }]

theorem bWd2 (x:Int) (w:World):(Instr.build 91 #[(2,.int .i64 x)]).run Tryd.prog w = .ok (.agg #[.int .i64 0,.string ⟨#[]⟩,.int .i64 x]) w:=by simp [go_sem]
attribute [go_sem ↓] bWd2
section
variable (k a:Int) (t:ByteArray) (w:World)
theorem fWd0:(Instr.field 91 (.agg #[.int .i64 k,.string t,.int .i64 a]) 0).run Tryd.prog w = .ok (.int .i64 k) w:=by simp [go_sem,Instr.field,asAgg]
theorem fWd1:(Instr.field 91 (.agg #[.int .i64 k,.string t,.int .i64 a]) 1).run Tryd.prog w = .ok (.string t) w:=by simp [go_sem,Instr.field,asAgg]
theorem fWd2:(Instr.field 91 (.agg #[.int .i64 k,.string t,.int .i64 a]) 2).run Tryd.prog w = .ok (.int .i64 a) w:=by simp [go_sem,Instr.field,asAgg]
theorem bBad:(Instr.build 95 #[(0,.int .i64 a)]).run Tryd.prog w = .ok (.agg #[.int .i64 a]) w:=by simp [go_sem]
end
attribute [go_sem ↓] fWd0 fWd1 fWd2 bBad

theorem now_ct {w:World} {b:Nat} {A:Option Addr} {c:Nat} {ws:List Wd} {i:Nat} {e:Int} (h:Rdr w b A c ws i e) :
  Ct Tryd.prog spec_reader_now.id #[.pointer (some ⟨b,0,none⟩)] w fun v w'=>v=wdV (nowW ws e i)∧Chg noB w w':=by
 refine spec_reader_now.ct fun R hR=>?_
 unfold spec_reader_now.run
 simp -dsimp [go_sem]
 obtain ⟨w1,hw1⟩:∃w1,w.alloc (.cells #[.int .i64 0,.string ⟨#[]⟩,.int .i64 0] 91)=w1:=⟨_,rfl⟩
 have q0:Rdr w1 b A c ws i e:=by rw [←hw1];exact h.chg ((Chg.refl noB w).alloc _)
 have hc1:Chg noB w w1:=by rw [←hw1];exact (Chg.refl noB w).alloc _
 have ht:Tri w1 w.heap.size 0 ⟨#[]⟩ 0:=by rw [←hw1];exact ⟨new_cell _ _ _ rfl 0,new_cell _ _ _ rfl 1,new_cell _ _ _ rfl 2,new_frozen _ _ _ rfl 0,new_frozen _ _ _ rfl 1,new_frozen _ _ _ rfl 2⟩
 rw [hw1]
 clear hw1
 have hq:w.heap.size≤w.heap.size:=Nat.le_refl _
 revert ht hq
 generalize hqq:w.heap.size=q
 intro ht hq
 have c0:=q0.c0
 have c1:=q0.c1
 have c2:=q0.c2
 simp -dsimp [go_sem,c0,c1,c2]
 have fin:∀x:Wd,Chg noB w (((w1.setCell ⟨q,0,none⟩ (.int .i64 x.1)).setCell ⟨q,1,none⟩ (.string x.2.1)).setCell ⟨q,2,none⟩ (.int .i64 x.2.2)):=fun x=>by
  subst hqq
  exact ((hc1.setCell (p:=⟨w.heap.size,0,none⟩) (Or.inr hq) _).setCell (p:=⟨w.heap.size,1,none⟩) (Or.inr hq) _).setCell (p:=⟨w.heap.size,2,none⟩) (Or.inr hq) _
 refine SPL_intro (fun h1=>?_) (fun h1=>?_) <;> simp at h1
 ·obtain ⟨g,rfl,hcell,_⟩:=row_elem q0.row (fun _ _=>rfl) (by omega) (List.getElem?_eq_getElem h1)
  have d0:=hcell 0 _ rfl
  have d1:=hcell 1 _ rfl
  have d2:=hcell 2 _ rfl
  simp only [Nat.add_zero] at d0
  simp -dsimp [go_sem,c0,c1,c2,h1,d0,d1,d2,ht.c0,ht.c1,ht.c2,ht.f0,ht.f1,ht.f2,World.cell?_setCell_other]
  exact hR _ _ ⟨by rw [now_at h1];rfl,(fin ws[i]).drew.drew⟩
 ·simp -dsimp [go_sem,c0,c1,c2,ht.c0,ht.c1,ht.c2,ht.f0,ht.f1,ht.f2,World.cell?_setCell_other]
  exact hR _ _ ⟨by rw [now_end (by omega)];rfl,(fin (0,noT,e)).drew⟩

theorem fail_ct {w:World} {b:Nat} {A:Option Addr} {c:Nat} {ws:List Wd} {i:Nat} {e:Int} (h:Rdr w b A c ws i e) :
  CtE Tryd.prog spec_reader_fail.id #[.pointer (some ⟨b,0,none⟩)] w fun r w'=>r = .panicked (badP (nowW ws e i).2.2)∧Chg noB w w':=by
 refine CtE.intro spec_reader_fail.enters fun R hR=>spec_reader_fail.calls R _ w ?_
 unfold spec_reader_fail.run
 simp -dsimp [go_sem]
 refine CALL_of (now_ct h) ?_
 rintro _ w1 ⟨rfl,hc⟩
 simp -dsimp [go_sem,wdV]
 exact hR _ _ ⟨rfl,hc⟩

theorem new3 {w:World} (x:Wd):Tri (w.alloc (.cells #[.int .i64 x.1,.string x.2.1,.int .i64 x.2.2] 91)) w.heap.size x.1 x.2.1 x.2.2 :=
 ⟨new_cell _ _ _ rfl 0,new_cell _ _ _ rfl 1,new_cell _ _ _ rfl 2,new_frozen _ _ _ rfl 0,new_frozen _ _ _ rfl 1,new_frozen _ _ _ rfl 2⟩

theorem is_ct {w:World} {b:Nat} {A:Option Addr} {c:Nat} {ws:List Wd} {i:Nat} {e:Int} (h:Rdr w b A c ws i e) (k:Int) (t:ByteArray) :
  Ct Tryd.prog spec_reader_is.id #[.pointer (some ⟨b,0,none⟩),.int .i64 k,.string t] w fun v w'=>v = .bool (decide ((nowW ws e i).1=k∧(nowW ws e i).2.1=t))∧Chg noB w w':=by
 refine spec_reader_is.ct fun R hR=>?_
 unfold spec_reader_is.run
 simp -dsimp [go_sem]
 refine CALL_of (now_ct h) ?_
 rintro _ w1 ⟨rfl,hc⟩
 generalize nowW ws e i=x at hR ⊢
 simp -dsimp [go_sem,wdV]
 have hc2:=hc.alloc (.cells #[.int .i64 x.1,.string x.2.1,.int .i64 x.2.2] 91)
 have ht:=new3 (w:=w1) x
 generalize w1.alloc (.cells #[.int .i64 x.1,.string x.2.1,.int .i64 x.2.2] 91)=w2 at hc2 ht ⊢
 refine SPL_intro (fun h1=>?_) (fun h1=>?_) <;> simp at h1
 ·simp -dsimp [go_sem,ht.c1]
  refine hR _ _ ⟨?_,hc2⟩
  rw [h1]
  congr 1
  by_cases h2:x.2.1=t
  ·simp [h2]
  ·simp [h2,toList_inj]
 ·exact hR _ _ ⟨by simp [h1],hc2⟩

/-- A step ahead. -/
def Ahead (w:World) (b i:Nat) (w':World):Prop:=∃w1,Chg noB w w1∧w'=w1.setCell ⟨b,1,none⟩ (.int .i64 ((i:Int)+1))

theorem need_ct {w:World} {b:Nat} {A:Option Addr} {c:Nat} {ws:List Wd} {i:Nat} {e:Int} (h:Rdr w b A c ws i e) (t:ByteArray) :
  CtE Tryd.prog spec_reader_need.id #[.pointer (some ⟨b,0,none⟩),.string t] w fun r w' =>
   (isSg (nowW ws e i) t=true∧r = .returned (.tuple #[])∧Ahead w b i w')∨(isSg (nowW ws e i) t=false∧r = .panicked (badP (nowW ws e i).2.2)∧Chg noB w w'):=by
 refine CtE.intro spec_reader_need.enters fun R hR=>spec_reader_need.calls R _ _ w ?_
 unfold spec_reader_need.run
 simp -dsimp [go_sem]
 refine CALL_of (is_ct h 4 t) ?_
 rintro _ w1 ⟨rfl,hc⟩
 have h1:=h.chg hc
 have wk:IntKind.i64.wrap ((i:Int)+1)=(i:Int)+1:=IntWalk.i64_in _ (by have:=h.le;have:=h.sz;omega)
 have c1:=h1.c1
 have f1:=h1.f1
 simp -dsimp [go_sem]
 refine SPL_intro (fun h2=>?_) (fun h2=>?_)
 ·refine CALL_ofE (fail_ct h1) ?_
  rintro _ w2 ⟨rfl,hc2⟩
  exact hR _ _ (.inr ⟨by rw [isSg,Bool.decide_and,←Bool.not_eq_true',Bool.not_and];exact h2,rfl,hc.trans hc2⟩)
 ·simp -dsimp [go_sem,c1,f1,wk]
  exact hR _ _ (.inl ⟨by simpa [isSg] using h2,rfl,w1,hc,rfl⟩)

theorem isT_ct {w:World} {b:Nat} {A:Option Addr} {c:Nat} {ws:List Wd} {i:Nat} {e:Int} (h:Rdr w b A c ws i e) :
  Ct Tryd.prog spec_reader_isT.id #[.pointer (some ⟨b,0,none⟩)] w fun v w'=>v = .bool (isTB (nowW ws e i))∧Chg noB w w':=by
 refine spec_reader_isT.ct fun R hR=>?_
 unfold spec_reader_isT.run
 simp -dsimp [go_sem]
 refine CALL_of (now_ct h) ?_
 rintro _ w1 ⟨rfl,hc⟩
 generalize nowW ws e i=x at hR ⊢
 simp -dsimp [go_sem,wdV]
 refine SPL_intro (fun h1=>?_) (fun h1=>?_) <;> simp at h1
 ·exact hR _ _ ⟨by simp [isTB,h1],hc⟩
 ·simp -dsimp [go_sem]
  refine hR _ _ ⟨?_,hc⟩
  congr 1
  rw [Bool.eq_iff_iff]
  simp [isTB,h1]

theorem name_ct {w:World} {b:Nat} {A:Option Addr} {c:Nat} {ws:List Wd} {i:Nat} {e:Int} (h:Rdr w b A c ws i e) :
  CtE Tryd.prog spec_reader_name.id #[.pointer (some ⟨b,0,none⟩)] w fun r w' =>
   ((nowW ws e i).1=1∧r = .returned (.string (nowW ws e i).2.1)∧Ahead w b i w')∨((nowW ws e i).1≠1∧r = .panicked (badP (nowW ws e i).2.2)∧Chg noB w w'):=by
 refine CtE.intro spec_reader_name.enters fun R hR=>spec_reader_name.calls R _ w ?_
 unfold spec_reader_name.run
 simp -dsimp [go_sem]
 refine CALL_of (now_ct h) ?_
 rintro _ w1 ⟨rfl,hc⟩
 have wk:IntKind.i64.wrap ((i:Int)+1)=(i:Int)+1:=IntWalk.i64_in _ (by have:=h.le;have:=h.sz;omega)
 generalize hx:nowW ws e i=x at hR ⊢
 simp -dsimp [go_sem,wdV]
 have hc2:=hc.alloc (.cells #[.int .i64 x.1,.string x.2.1,.int .i64 x.2.2] 91)
 have ht:=new3 (w:=w1) x
 have hq:w.heap.size≤w1.heap.size:=hc.size
 generalize w1.alloc (.cells #[.int .i64 x.1,.string x.2.1,.int .i64 x.2.2] 91)=w2 at hc2 ht ⊢
 generalize w1.heap.size=q at ht hq ⊢
 have h2:=h.chg hc2
 have c1:=h2.c1
 have f1:=h2.f1
 have hb:=h.lt
 have hne:((⟨q,1,none⟩:Addr)=⟨b,1,none⟩)=False:=eq_false (by intro e;injection e with e;omega)
 have d1:(w2.setCell ⟨b,1,none⟩ (.int .i64 ((i:Int)+1))).cell? ⟨q,1,none⟩=some (.string x.2.1):=by
  rw [World.cell?_setCell_other _ _ _ _ (by intro e;injection e with e;omega)];exact ht.c1
 refine SPL_intro (fun h3=>?_) (fun h3=>?_) <;> simp at h3
 ·refine CALL_ofE (fail_ct h2) ?_
  rintro _ w3 ⟨rfl,hc3⟩
  exact hR _ _ (.inr ⟨h3,by rw [hx],hc2.trans hc3⟩)
 ·simp -dsimp [go_sem,c1,f1,wk,d1]
  exact hR _ _ (.inl ⟨h3,rfl,w2,hc2,rfl⟩)
end Go.Proofs.YtckbgeedlobfaaaDoor

/-
  The reader in pieces; calls of its small functions.
-/
namespace Go.Proofs.YtckbgeedlobfaaaDoor
open Go.Px Go.Px.Scan Go.Px.Spec Go.RowKit
attribute [-go_sem] Builtin.append_

section
variable {G:Nat→Prop} {W w:World} {L:List Ch} {X:Pan} {K:Value→World→Prop} {b:Nat} {A:Option Addr} {c:Nat} {ws:List Wd} {i:Nat} {e:Int}

theorem _root_.Go.Px.St.rdr (s:St G W w L) (k0 k1:Nat) {tl:List Value} (h0:L[k0]?=some (boxC b 87 (.slice A ws.length c :: .int .i64 i :: .int .i64 e::tl)))
  (h1:L[k1]?=some (rowC 91 3 A ws.length c (ws.flatMap encW))) (hle:i≤ws.length) (hsz:ws.length≤10000):Rdr w b A c ws i e:=by
 obtain ⟨y,yf,hb⟩:=s.box k0 h0
 obtain ⟨F,ho,_⟩:=s.get h1
 exact ⟨y.1,y.2.1,y.2.2.1,yf 1,hb,⟨ho.1,fun _ _=>trivial⟩,hle,hsz⟩

theorem CALL_now (s:St G W w L) (hr:Rdr w b A c ws i e) (hK:∀w',St G W w' L→Rdr w' b A c ws i e→K (wdV (nowW ws e i)) w'):CALL Tryd.prog X spec_reader_now.id #[.pointer (some ⟨b,0,none⟩)] w K:=by
 refine CALL_of (now_ct hr) ?_
 rintro _ w' ⟨rfl,hc⟩
 exact hK _ (s.old hc) (hr.chg hc)

theorem CALL_fail (s:St G W w L) (hr:Rdr w b A c ws i e) (hX:∀w',Chg G W w'→X (badP (nowW ws e i).2.2) w'):CALL Tryd.prog X spec_reader_fail.id #[.pointer (some ⟨b,0,none⟩)] w K:=by
 refine CALL_ofE (fail_ct hr) ?_
 rintro _ w' ⟨rfl,hc⟩
 exact hX _ (s.old hc).chg

theorem CALL_is (s:St G W w L) (hr:Rdr w b A c ws i e) {k:Int} {t:ByteArray} (hK:∀w',St G W w' L→Rdr w' b A c ws i e→K (.bool (decide ((nowW ws e i).1=k∧(nowW ws e i).2.1=t))) w'):CALL Tryd.prog X spec_reader_is.id #[.pointer (some ⟨b,0,none⟩),.int .i64 k,.string t] w K:=by
 refine CALL_of (is_ct hr k t) ?_
 rintro _ w' ⟨rfl,hc⟩
 exact hK _ (s.old hc) (hr.chg hc)

theorem CALL_isT (s:St G W w L) (hr:Rdr w b A c ws i e) (hK:∀w',St G W w' L→Rdr w' b A c ws i e→K (.bool (isTB (nowW ws e i))) w'):CALL Tryd.prog X spec_reader_isT.id #[.pointer (some ⟨b,0,none⟩)] w K:=by
 refine CALL_of (isT_ct hr) ?_
 rintro _ w' ⟨rfl,hc⟩
 exact hK _ (s.old hc) (hr.chg hc)

theorem St_ahead (s:St G W w L) (k0:Nat) {cs:List Value} (h0:L[k0]?=some (boxC b 87 cs)) {w':World} (h:Ahead w b i w'):St G W w' (L.set k0 (boxC b 87 (cs.set 1 (.int .i64 ((i:Int)+1))))):=by
 obtain ⟨w1,hc,rfl⟩:=h
 exact (s.old hc).set k0 h0 1 _

theorem CALL_need (s:St G W w L) (k0:Nat) {cs:List Value} (h0:L[k0]?=some (boxC b 87 cs)) (hr:Rdr w b A c ws i e) {t:ByteArray}
  (hK:isSg (nowW ws e i) t=true→i<ws.length→∀w',St G W w' (L.set k0 (boxC b 87 (cs.set 1 (.int .i64 ((i:Int)+1)))))→K (.tuple #[]) w')
  (hX:isSg (nowW ws e i) t=false→∀w',Chg G W w'→X (badP (nowW ws e i).2.2) w'):CALL Tryd.prog X spec_reader_need.id #[.pointer (some ⟨b,0,none⟩),.string t] w K:=by
 refine CALL_ofE (need_ct hr t) ?_
 rintro _ w' (⟨h1,rfl,h2⟩ | ⟨h1,rfl,hc⟩)
 ·refine hK h1 (kind_in (ws:=ws) (e:=e) (i:=i) ?_) _ (St_ahead s k0 h0 h2)
  simp only [isSg,decide_eq_true_eq] at h1
  rw [h1.1];decide
 ·exact hX h1 _ (s.old hc).chg

theorem CALL_name (s:St G W w L) (k0:Nat) {cs:List Value} (h0:L[k0]?=some (boxC b 87 cs)) (hr:Rdr w b A c ws i e)
  (hK:(nowW ws e i).1=1→i<ws.length→∀w',St G W w' (L.set k0 (boxC b 87 (cs.set 1 (.int .i64 ((i:Int)+1)))))→K (.string (nowW ws e i).2.1) w')
  (hX:(nowW ws e i).1≠1→∀w',Chg G W w'→X (badP (nowW ws e i).2.2) w'):CALL Tryd.prog X spec_reader_name.id #[.pointer (some ⟨b,0,none⟩)] w K:=by
 refine CALL_ofE (name_ct hr) ?_
 rintro _ w' (⟨h1,rfl,h2⟩ | ⟨h1,rfl,hc⟩)
 ·exact hK h1 (kind_in (ws:=ws) (e:=e) (i:=i) (by rw [h1];decide)) _ (St_ahead s k0 h0 h2)
 ·exact hX h1 _ (s.old hc).chg
end

/-! ### All of the reader -/
structure RD where
 km:Value
 kc:Nat
 ah:Option Addr
 ch:Nat
 vs:List Value
 lm:Value
 lc:Nat
 ar:Option Addr
 cr:Nat
 us:List Value

def encH (h:(Nat×List ByteArray)×Value):List Value:=[.int .i64 h.1.1,h.2]
def encR (r:RowS×Value):List Value:=[.string r.1.left,r.2,.string r.1.by_,.bool (decide (r.1.said=2))]
def knF (hs:List (Nat×List ByteArray)) (s:ByteArray):Int:=kn hs s
/-- How often a text is among some. -/
def cnt (l:List ByteArray) (s:ByteArray):Int:=(l.filter fun x=>decide (x=s)).length

def rdBox (A:Option Addr) (c:Nat) (ws:List Wd) (e:Int) (i:Nat) (hs:List (Nat×List ByteArray)) (st:ByteArray) (rs:List RowS) (D:RD):List Value :=
 [.slice A ws.length c,.int .i64 i,.int .i64 e,D.km,.slice D.ah hs.length D.ch,.string st,D.lm,.slice D.ar rs.length D.cr]

/-- The reader's pieces: its box, its words, the known terminals, the headers, their terminals, the Lefts, the rows, their words. -/
def rdL (b:Nat) (A:Option Addr) (c:Nat) (ws:List Wd) (e:Int) (i:Nat) (hs:List (Nat×List ByteArray)) (st:ByteArray) (ls:List ByteArray) (rs:List RowS) (D:RD):List Ch :=
 [boxC b 87 (rdBox A c ws e i hs st rs D),rowC 91 3 A ws.length c (ws.flatMap encW),mapC Tryd.prog kStr 9 3 D.km D.kc (knF hs),
   rowC 106 2 D.ah hs.length D.ch ((hs.zip D.vs).flatMap encH),rowsC 9 1 D.vs (hs.map fun h=>h.2.map Value.string),
   mapC Tryd.prog kStr 9 3 D.lm D.lc (cnt ls),
   rowC 112 4 D.ar rs.length D.cr ((rs.zip D.us).flatMap encR),rowsC 91 3 D.us (rs.map fun r=>r.words.flatMap encW)]

/-- Bounds: all that was told came with words. -/
structure Rb (ws:List Wd) (i:Nat) (hs:List (Nat×List ByteArray)) (ls:List ByteArray) (rs:List RowS) (D:RD):Prop where
 le:i≤ws.length
 sz:ws.length≤10000
 kc:D.kc≤i
 lc:D.lc≤i
 hs:hs.length≤i
 rs:rs.length≤i
 ls:ls.length≤i
 km:∃p,D.km = .map (some p)
 lm:∃p,D.lm = .map (some p)
 tx:∀x∈ws,x.2.1.size≤maxLen

theorem now_tx {ws:List Wd} {e:Int} {i:Nat} (h:∀x∈ws,x.2.1.size≤maxLen):(nowW ws e i).2.1.size≤maxLen:=by
 by_cases hi:i<ws.length
 ·rw [now_at hi];exact h _ (List.getElem_mem hi)
 ·rw [now_end hi];exact Nat.zero_le _
end Go.Proofs.YtckbgeedlobfaaaDoor

/-
  Grammars, plainly: which of them may be.
-/
namespace Go.Px.Scan
open Go.Px

/-- A grammar. -/
structure Gr where
 terms:List (ByteArray×Int)
 nons:List ByteArray
 levels:List Int
 start:Int
 prods:List (Int×List Int×Int)

def addL (acc:List Int) (x:Int):List Int:=if x∈acc then acc else acc++[x]
/-- The Lefts, in the order in which they first come. -/
def leftsOf (l:List (Int×List Int×Int)):List Int:=l.foldl (fun a p=>addL a p.1) []

structure TermOk (g:Gr) (t:ByteArray×Int):Prop where
 name:TermP t.1
 lo:0≤t.2
 hi:t.2≤g.levels.length

structure SymsP (g:Gr) (a:Nat):Prop where
 t0:g.terms.head?=some (⟨#[]⟩,0)
 n0:a<g.nons.length
 t1:g.terms.length≤65
 n1:g.nons.length≤64+a
 sum:g.terms.length-1+(g.nons.length-a)≤64
 terms:∀t∈g.terms.tail,TermOk g t
 levels:∀i (h:i<g.levels.length),1≤g.levels[i]∧g.levels[i]≤3∧∃t∈g.terms.tail,t.2=(i:Int)+1
 tnd:(g.terms.tail.map (·.1)).Nodup
 nnd:(g.nons.drop a).Nodup
 nnam:∀s∈g.nons.drop a,NameP s

structure ProdOk (g:Gr) (a:Nat) (p:Int×List Int×Int):Prop where
 l0:(g.terms.length+a:Int)≤p.1
 l1:p.1<(g.terms.length+g.nons.length:Int)
 v0:0≤p.2.2
 v1:p.2.2≤g.levels.length
 right:∀s∈p.2.1,1≤s∧s<(g.terms.length+g.nons.length:Int)∧((g.terms.length:Int)≤s→(g.terms.length+a:Int)≤s)

structure ProdsP (g:Gr) (a:Nat):Prop where
 c0:a<g.prods.length
 c1:g.prods.length≤96+a
 each:∀p∈g.prods.drop a,ProdOk g a p
 lefts:(leftsOf (g.prods.drop a)).length+a=g.nons.length
 s0:(g.terms.length+a:Int)≤g.start
 s1:g.start<(g.terms.length+g.nons.length:Int)

/-- May a grammar be? -/
structure ValidP (g:Gr):Prop where
 syms:SymsP g 0
 prods:ProdsP g 0
 sorted:(leftsOf g.prods).Pairwise (·≤·)

/-- Is it one with the added production? -/
structure ClosedP (g:Gr):Prop where
 first:g.nons.head?=some ⟨#[]⟩
 syms:SymsP g 1
 prods:ProdsP g 1
 added:g.prods.head?=some ((g.terms.length:Int),[g.start],0)

theorem bool_no {b:Bool} {p:Prop} (i:b=true↔p) (h:¬p):b=false:=by
 cases b
 ·rfl
 ·exact absurd (i.1 rfl) h

/-! ### Lefts -/
theorem addL_nodup {acc:List Int} (h:acc.Nodup) (x:Int):(addL acc x).Nodup:=by
 unfold addL
 split
 ·exact h
 ·rename_i hx
  refine List.nodup_append.2 ⟨h,by simp,fun a ha b hb=>?_⟩
  simp at hb
  subst hb
  intro e;subst e;exact hx ha
theorem addL_mem {acc:List Int} {x y:Int}:y∈addL acc x↔y∈acc∨y=x:=by
 unfold addL
 split
 ·rename_i hx
  exact ⟨Or.inl,fun h=>h.elim id fun e=>e ▸ hx⟩
 ·simp
theorem leftsOf_snoc (l:List (Int×List Int×Int)) (p:Int×List Int×Int):leftsOf (l++[p])=addL (leftsOf l) p.1:=by simp [leftsOf]
theorem foldl_lefts (l:List (Int×List Int×Int)):∀acc:List Int,acc.Nodup→(l.foldl (fun a p=>addL a p.1) acc).Nodup∧∀y,y∈l.foldl (fun a p=>addL a p.1) acc↔y∈acc∨∃p∈l,p.1=y:=by
 induction l with
 | nil=>intro acc h;exact ⟨h,fun y=>by simp⟩
 | cons p r ih =>
  intro acc h
  obtain ⟨h1,h2⟩:=ih (addL acc p.1) (addL_nodup h _)
  refine ⟨h1,fun y=>?_⟩
  rw [List.foldl_cons,h2,addL_mem]
  simp [or_assoc,eq_comm]
theorem leftsOf_nodup (l:List (Int×List Int×Int)):(leftsOf l).Nodup:=(foldl_lefts l [] (by simp)).1
theorem leftsOf_mem {l:List (Int×List Int×Int)} {y:Int}:y∈leftsOf l↔∃p∈l,p.1=y:=by
 have:=(foldl_lefts l [] (by simp)).2 y
 simpa [leftsOf] using this

/-! ### Counting -/
theorem nodup_le {α:Type} [DecidableEq α]:∀{l m:List α},l.Nodup→(∀x∈l,x∈m)→l.length≤m.length
 | [],_,_,_=>Nat.zero_le _
 | x::l,m,h,hs=>by
  rw [List.nodup_cons] at h
  have hx:=hs x (by simp)
  have:=nodup_le (l:=l) (m:=m.erase x) h.2 fun y hy=>(List.mem_erase_of_ne (fun e=>h.1 (by rw [←e];exact hy))).2 (hs y (by simp [hy]))
  rw [List.length_erase_of_mem hx] at this
  have hpos:0<m.length:=List.length_pos_of_mem hx
  simp
  omega

/-- A row of numbers, each one more. -/
theorem sorted_iff {l:List Int} (hnd:l.Nodup) {t:Int} (hb:∀x∈l,t≤x∧x<t+l.length):l.Pairwise (·≤·)↔∀i (h:i<l.length),l[i]=t+i:=by
 constructor
 ·intro hp
  have hlt:∀i j (hi:i<j) (hj:j<l.length),l[i]<l[j]:=by
   intro i j hi hj
   have h1:=List.pairwise_iff_getElem.1 hp i j (by omega) hj hi
   have h2:=List.pairwise_iff_getElem.1 hnd i j (by omega) hj hi
   have h3:l[i]≠l[j]:=h2
   omega
  have lo:∀i (h:i<l.length),t+i≤l[i]:=by
   intro i
   induction i with
   | zero=>intro h;have:=(hb l[0] (List.getElem_mem h)).1;simpa using this
   | succ i ih =>
    intro h
    have h1:=ih (by omega)
    have h2:=hlt i (i+1) (by omega) h
    omega
  have hi':∀d i (h:i<l.length),i+d+1=l.length→l[i]≤t+i:=by
   intro d
   induction d with
   | zero=>intro i h e;have:=(hb l[i] (List.getElem_mem h)).2;omega
   | succ d ih =>
    intro i h e
    have h1:=ih (i+1) (by omega) (by omega)
    have h2:=hlt i (i+1) (by omega) (by omega)
    omega
  intro i h
  have:=lo i h
  have:=hi' (l.length-i-1) i h (by omega)
  omega
 ·intro h
  refine List.pairwise_iff_getElem.2 fun i j hi hj hij=>?_
  rw [h i hi,h j hj];omega

theorem ProdsP.row {g:Gr} (h:ProdsP g 0):(leftsOf g.prods).Pairwise (·≤·)↔∀i (hi:i<(leftsOf g.prods).length),(leftsOf g.prods)[i]=(g.terms.length:Int)+i:=by
 have hl:=h.lefts
 rw [List.drop_zero] at hl
 refine sorted_iff (leftsOf_nodup _) fun x hx=>?_
 obtain ⟨p,hp,rfl⟩:=leftsOf_mem.1 hx
 have:=h.each p (by simpa using hp)
 have h1:=this.l0
 have h2:=this.l1
 omega

/-- No more levels than terminals. -/
theorem SymsP.lev {g:Gr} {a:Nat} (h:SymsP g a):g.levels.length≤64:=by
 have h1:((List.range g.levels.length).map fun i:Nat=>(i:Int)+1).length≤(g.terms.tail.map (·.2)).length:=by
  refine nodup_le ?_ fun x hx=>?_
  ·refine List.pairwise_map.2 ?_
   refine List.Pairwise.imp ?_ (List.nodup_range (n:=g.levels.length))
   intro a b hab e
   exact hab (by omega)
  ·obtain ⟨i,hi,rfl⟩:=List.mem_map.1 hx
   obtain ⟨_,_,t,ht,e⟩:=h.levels i (by simpa using hi)
   exact List.mem_map.2 ⟨t,ht,e⟩
 have:=h.t1
 simp at h1
 omega
end Go.Px.Scan

/-
  Grammars in memory.
-/
namespace Go.Px.Scan
open Go.Px Go.RowKit

def rTerm:Rep (ByteArray×Int):=rStr.prod rInt
def rPr:Rep (Int×List Int×Int):=rInt.prod ((rSlice rInt).prod rInt)
def rGram:Rep Gr:=Rep.map ((rSlice rTerm).prod ((rSlice rStr).prod ((rSlice rInt).prod (rInt.prod (rSlice rPr))))) fun g=>(g.terms,g.nons,g.levels,g.start,g.prods)

section
variable {w:World} {B:Nat} {A:Option Addr} {n c:Nat}

theorem terms_at {l:List (ByteArray×Int)} (h:(rSlice rTerm).at1 w B (.slice A n c) l) {i:Nat} (hi:i<l.length) :
  ∃b o,A=some ⟨b,o,none⟩∧b<B∧w.cell? ⟨b,o+i*2,none⟩=some (.string l[i].1)∧w.cell? ⟨b,o+i*2+1,none⟩=some (.int .i64 l[i].2)∧l[i].1.size≤maxLen∧inI64 l[i].2:=by
 obtain ⟨b,o,ys,hA,hb,⟨c1,c2,rfl,⟨rfl,h1⟩,rfl,h2⟩,hc⟩:=slice_at h hi
 exact ⟨b,o,hA,hb,hc 0 _ rfl,hc 1 _ rfl,h1,h2⟩

theorem prods_at {l:List (Int×List Int×Int)} (h:(rSlice rPr).at1 w B (.slice A n c) l) {i:Nat} (hi:i<l.length) :
  ∃b o v,A=some ⟨b,o,none⟩∧b<B∧w.cell? ⟨b,o+i*3,none⟩=some (.int .i64 l[i].1)∧w.cell? ⟨b,o+i*3+1,none⟩=some v∧w.cell? ⟨b,o+i*3+2,none⟩=some (.int .i64 l[i].2.2) ∧
   (rSlice rInt).at1 w B v l[i].2.1∧inI64 l[i].1∧inI64 l[i].2.2:=by
 obtain ⟨b,o,ys,hA,hb,⟨c1,c2,rfl,⟨rfl,h1⟩,c3,c4,rfl,h2,rfl,h3⟩,hc⟩:=slice_at h hi
 obtain ⟨A',k,rfl,h4⟩:=h2
 exact ⟨b,o,_,hA,hb,hc 0 _ rfl,hc 1 _ rfl,hc 2 _ rfl,⟨A',k,rfl,h4⟩,h1,h3⟩

/-- A grammar's value. -/
structure GrV (w:World) (B:Nat) (v:Value) (g:Gr):Prop where
 ex:∃A1 c1 A2 c2 A3 c3 A4 c4,v = .agg #[.slice A1 g.terms.length c1,.slice A2 g.nons.length c2,.slice A3 g.levels.length c3,.int .i64 g.start,.slice A4 g.prods.length c4] ∧
  (rSlice rTerm).at1 w B (.slice A1 g.terms.length c1) g.terms∧(rSlice rStr).at1 w B (.slice A2 g.nons.length c2) g.nons∧(rSlice rInt).at1 w B (.slice A3 g.levels.length c3) g.levels∧inI64 g.start∧(rSlice rPr).at1 w B (.slice A4 g.prods.length c4) g.prods ∧
  (g.terms.length≤c1∧c1≤maxLen)∧(g.nons.length≤c2∧c2≤maxLen)∧(g.levels.length≤c3∧c3≤maxLen)∧(g.prods.length≤c4∧c4≤maxLen)

theorem rGram_open {v:Value} {g:Gr} (h:rGram.atN w B v g):GrV w B v g:=by
 obtain ⟨cs,rfl,x1,y1,e1,h1,x2,y2,e2,h2,x3,y3,e3,h3,x4,y4,e4,⟨h4,i4⟩,h5⟩:=h
 obtain ⟨A1,c1,f1,l1,m1,_⟩:=id h1
 obtain ⟨A2,c2,f2,l2,m2,_⟩:=id h2
 obtain ⟨A3,c3,f3,l3,m3,_⟩:=id h3
 obtain ⟨A4,c4,f4,l4,m4,_⟩:=id h5
 subst f1 f2 f3 h4 f4 e4 e3 e2 e1
 exact ⟨A1,c1,A2,c2,A3,c3,A4,c4,rfl,h1,h2,h3,i4,h5,⟨l1,m1⟩,⟨l2,m2⟩,⟨l3,m3⟩,⟨l4,m4⟩⟩

theorem rGram_mk {g:Gr} {A1 A2 A3 A4:Option Addr} {n1 c1 n2 c2 n3 c3 n4 c4:Nat} {s:Value} (h1:(rSlice rTerm).at1 w B (.slice A1 n1 c1) g.terms) (h2:(rSlice rStr).at1 w B (.slice A2 n2 c2) g.nons) (h3:(rSlice rInt).at1 w B (.slice A3 n3 c3) g.levels)
  (hs:s = .int .i64 g.start) (h4:inI64 g.start) (h5:(rSlice rPr).at1 w B (.slice A4 n4 c4) g.prods):rGram.atN w B (.agg #[.slice A1 n1 c1,.slice A2 n2 c2,.slice A3 n3 c3,s,.slice A4 n4 c4]) g:=by
 subst hs
 exact ⟨_,rfl,[_],_,rfl,h1,[_],_,rfl,h2,[_],_,rfl,h3,[_],_,rfl,⟨rfl,h4⟩,h5⟩

theorem rGram_below {w':World} {v:Value} {g:Gr} (h:rGram.atN w B v g) (hb:Below B w w'):rGram.atN w' B v g:=by
 obtain ⟨cs,rfl,hc⟩:=h
 exact ⟨cs,rfl,rGram.keep hc (Nat.le_refl _) hb.block⟩
theorem rGram_up {B':Nat} {v:Value} {g:Gr} (h:rGram.atN w B v g) (hB:B≤B'):rGram.atN w B' v g:=by
 obtain ⟨cs,rfl,hc⟩:=h
 exact ⟨cs,rfl,rGram.keep hc hB fun _ _=>rfl⟩

theorem flat_one {α β:Type} (f:α→β) (l:List α):l.flatMap (fun x=>[f x])=l.map f:=by
 induction l with
 | nil=>rfl
 | cons x r ih=>simp [ih]
end
end Go.Px.Scan

/-
  Names and terminals' texts in package gram and in the document's answer.
-/
namespace Go.Px.Scan
open Classical in
noncomputable def nmB (s:ByteArray):Bool:=decide (NameP s)
open Classical in
noncomputable def tmB (s:ByteArray):Bool:=decide (TermP s)
theorem nmB_iff {s:ByteArray}:nmB s=true↔NameP s:=@decide_eq_true_iff _ (_)
theorem tmB_iff {s:ByteArray}:tmB s=true↔TermP s:=@decide_eq_true_iff _ (_)
theorem nmB_no {s:ByteArray} (h:¬NameP s):nmB s=false:=by rw [Bool.eq_false_iff];exact fun h'=>h (nmB_iff.1 h')
theorem tmB_no {s:ByteArray} (h:¬TermP s):tmB s=false:=by rw [Bool.eq_false_iff];exact fun h'=>h (tmB_iff.1 h')
end Go.Px.Scan

namespace Go.Proofs.YtckbgeedlobfaaaDoor
open Go.Px Go.Px.Scan Go.RowKit

theorem bytes_of {p:Nat→Prop} (h:∀c:Fin 256,p c.val) (c:Nat) (hc:c<256):p c:=h ⟨c,hc⟩
theorem or32 (c:Nat) (hc:c<256):(decide (97≤bits BinOp.or IntKind.u8 (c:Int) 32) && decide (bits BinOp.or IntKind.u8 (c:Int) 32≤122))=letterN c :=
 bytes_of (p:=fun c=>(decide (97≤bits BinOp.or IntKind.u8 (c:Int) 32) && decide (bits BinOp.or IntKind.u8 (c:Int) 32≤122))=letterN c) (by decide +kernel) c hc

theorem isTerm1_ct (r:Int) (w:World):Ct Tryd.prog gram_isTerm_1.id #[.int .i32 r] w fun v w'=>v = .bool (decide (r<32∨126<r∨r=39))∧w=w':=by
 refine gram_isTerm_1.ct fun R hR=>?_
 unfold gram_isTerm_1.run gram_isTerm_1.b1
 simp [go_sem]
 refine SPL_intro (fun h=>?_) (fun h=>?_) <;> simp at h
 ·exact hR _ _ ⟨by simp [h],rfl⟩
 ·simp [go_sem]
  refine SPL_intro (fun h2=>?_) (fun h2=>?_) <;> simp at h2
  ·exact hR _ _ ⟨by simp [h2],rfl⟩
  ·simp [go_sem]
   refine hR _ _ ⟨?_,rfl⟩
   congr 1
   rw [Bool.eq_iff_iff]
   simp
   omega

theorem chg_iter {w:World} {k:Nat} (s:ByteArray) (pos:Nat):Chg (·=k) w (w.iterAt k s pos) :=
 ⟨rfl,rfl,rfl,by rw [Lib.iterAt_size];exact Nat.le_refl _,fun i _ hi=>Lib.iterAt_other w k i s pos hi⟩

theorem IndexFunc_ct {s:ByteArray} (hs:s.size≤maxLen) (w:World):Ct Tryd.prog strings_IndexFunc.id #[.string s,.func (.func gram_isTerm_1.id) #[] #[]] w fun v w'=>(∃i,v = .int .i64 i∧(0≤i↔¬∀j,j<s.size→plainN (bt s j)=true))∧Chg (fun _=>False) w w':=by
 refine strings_IndexFunc.ct fun R hR=>?_
 unfold strings_IndexFunc.run strings_IndexFunc.b1
 refine CALL_of (S:=fun v w'=>(∃i,v = .int .i64 i∧(0≤i↔¬∀j,j<s.size→plainN (bt s j)=true))∧Chg (fun _=>False) w w') (strings_indexFunc.ct fun R hR=>?_) (fun v w' h=>hR v w' h)
 unfold strings_indexFunc.run strings_indexFunc.b1 strings_indexFunc.b4
 simp [go_sem]
 have hc0:Chg (fun _=>False) w (w.iter s 0):=(Chg.refl _ _).alloc _
 have hk0:(w.iter s 0).heap[w.heap.size]?=some (.stringIter s 0):=World.iter_heap w s 0
 refine strings_indexFunc.l6_intro _ _ _ _ _ (fun W=>∃j,j≤s.size∧W.heap[w.heap.size]?=some (.stringIter s j)∧(∀i,i<j→plainN (bt s i)=true)∧Chg (fun _=>False) w W) (fun W=>s.size-W.iterPos w.heap.size) ⟨0,Nat.zero_le _,hk0,fun i h=>by omega,hc0⟩ ?_
 rintro W ⟨j,hj,hk,hall,hc⟩ C hC
 unfold strings_indexFunc.b7
 by_cases hlt:j<s.size
 ·have hb:(s[j]'hlt).toNat=bt s j:=by unfold bt;rw [dif_pos hlt]
  rw [RUN_eq,Lib.run_next_any_at W w.heap.size s j 0 hk hlt,RES_ok]
  simp [go_sem]
  refine CALLY_of (isTerm1_ct _ _) ?_
  rintro _ _ ⟨rfl,rfl⟩
  simp [go_sem]
  have hci:Chg (fun _=>False) w (W.iterAt w.heap.size s (j+(Utf8.decode s j).2)):=hc.trans' (chg_iter s _) (fun i hi h=>by omega)
  refine SPL_intro (fun h=>?_) (fun h=>?_)
  ·refine hR _ _ ⟨⟨j,rfl,?_⟩,hci⟩
   refine ⟨fun _ hp=>?_,fun _=>by omega⟩
   have h1:=hp j hlt
   have h2:bt s j<128:=by simp [plainN] at h1;omega
   rw [decode_ascii s j hlt (by rw [hb];exact h2),hb] at h
   simp [plainN] at h1 h
   omega
  ·have hlow:bt s j<128:=by
    rcases Nat.lt_or_ge (bt s j) 128 with h2 | h2
    ·exact h2
    ·have:=(decode_high s j hlt (by rw [hb];exact h2)).1
     simp at h
     omega
   have hd:=decode_ascii s j hlt (by rw [hb];exact hlow)
   rw [hd] at h hci ⊢
   rw [hb] at h
   simp at h
   refine hC _ ⟨j+1,hlt,Lib.iterAt_heap _ _ _ _ _ hk,fun i hi=>?_,hci⟩ ?_
   ·by_cases he:i=j
    ·rw [he];simp [plainN];omega
    ·exact hall i (by omega)
   ·unfold World.iterPos
    rw [Lib.iterAt_heap _ _ _ _ _ hk,hk]
    simp;omega
 ·rw [RUN_eq,Lib.run_next_end_at W w.heap.size s j 0 hk hlt,RES_ok]
  simp [go_sem]
  unfold strings_indexFunc.b3
  refine hR _ _ ⟨⟨-1,rfl,?_⟩,hc⟩
  refine ⟨fun h=>by omega,fun h=>absurd (fun i hi=>hall i (by omega)) h⟩

theorem str_empty {s:ByteArray}:(s.toList == [])=decide (s.size=0):=by
 rw [ByteArray.toList_eq]
 by_cases h:s.size=0
 ·have:s.data.toList=[]:=List.eq_nil_of_length_eq_zero (by simpa using h)
  simp [this,h]
 ·have:s.data.toList≠[]:=fun e=>h (by have:=congrArg List.length e;simpa using this)
  rw [beq_eq_false_iff_ne.2 this];simp [h]

theorem size_of_nil {s:ByteArray} (h:s.toList=[]):s.size=0:=by
 rw [ByteArray.toList_eq] at h
 have h2:s.data.toList.length=s.size:=by simp
 rw [h] at h2
 exact h2.symm

theorem isTerm_ct {s:ByteArray} (hs:s.size≤maxLen) (w:World):Ct Tryd.prog gram_isTerm.id #[.string s] w fun v w'=>v = .bool (tmB s)∧Chg (fun _=>False) w w':=by
 refine gram_isTerm.ct fun R hR=>?_
 have no:¬TermP s→R (.returned (.bool false)) w:=fun h=>hR _ _ ⟨by rw [tmB_no h],Chg.refl _ _⟩
 unfold gram_isTerm.run gram_isTerm.b1
 simp [go_sem]
 refine SPL_intro (fun h=>?_) (fun h=>?_)
 ·have hpos:0<s.size:=by
   rcases Nat.eq_zero_or_pos s.size with h0 | h0
   ·have:=str_empty (s:=s)
    rw [h0] at this
    simp at this h
    exact absurd this h
   ·exact h0
  simp [go_sem]
  refine SPL_intro (fun h2=>?_) (fun h2=>?_) <;> simp at h2
  ·refine CALL_of (IndexFunc_ct hs w) ?_
   rintro _ w1 ⟨⟨i,rfl,hi⟩,hc⟩
   simp [go_sem]
   refine hR _ _ ⟨?_,hc⟩
   congr 1
   rw [Bool.eq_iff_iff,tmB_iff,decide_eq_true_iff]
   constructor
   ·intro h3
    refine ⟨hpos,by omega,?_⟩
    exact Classical.byContradiction fun h4=>by have:=hi.2 h4;omega
   ·intro h3
    rcases Int.lt_or_le i 0 with h4 | h4
    ·exact h4
    ·exact absurd h3.2.2 (hi.1 h4)
  ·exact no fun h3=>by have:=h3.2.1;omega
 ·refine no fun h3=>?_
  have h4:=h3.1
  have h5:s.toList=[]:=by simpa using h
  have h6:=size_of_nil h5
  omega

theorem isName_ct {s:ByteArray} (hs:s.size≤maxLen) (w:World):Ct Tryd.prog gram_isName.id #[.string s] w fun v w'=>v = .bool (nmB s)∧Chg (fun _=>False) w w':=by
 refine gram_isName.ct fun R hR=>?_
 have no:¬NameP s→R (.returned (.bool false)) w:=fun h=>hR _ _ ⟨by rw [nmB_no h],Chg.refl _ _⟩
 unfold gram_isName.run gram_isName.b1 gram_isName.b4
 simp [go_sem]
 refine gram_isName.l6_intro _ _ _ _ _ (fun x w1=>∃k:Nat,x = .int .i64 k∧k≤s.size∧(∀i,i<k→innerN (bt s i)=true)∧(0<k→(letterN (bt s 0) || decide (bt s 0=95))=true)∧w=w1) (fun x _=>s.size-iv x) ⟨0,rfl,by omega,fun i h=>by omega,fun h=>by omega,rfl⟩ ?_
 rintro _ _ ⟨k,rfl,hk,hall,hfst,rfl⟩ C hC
 unfold gram_isName.b7
 simp [go_sem]
 refine SPL_intro (fun h=>?_) (fun h=>?_) <;> simp at h
 ·have step:∀b,(b=false→innerN (bt s k)=true∧(k=0→(letterN (bt s 0) || decide (bt s 0=95))=true))→(b=true→¬NameP s)→gram_isName.b12 R C (.int .i64 k) (.bool b) w:=by
   intro b h1 h2
   unfold gram_isName.b12
   cases b with
   | true=>simp [go_sem];exact no (h2 rfl)
   | false =>
    simp [go_sem]
    unfold gram_isName.b9
    simp [go_sem,wrap_succ h hs]
    refine hC _ _ ⟨k+1,by simp,by omega,fun i hi=>?_,fun _=>?_,rfl⟩ (by simp [iv];omega)
    ·by_cases he:i=k
     ·rw [he];exact (h1 rfl).1
     ·exact hall i (by omega)
    ·by_cases he:k=0
     ·exact (h1 rfl).2 he
     ·exact hfst (by omega)
  have hb:=bt_lt s k
  have hor:=or32 (bt s k) hb
  have noK:innerN (bt s k)=false→¬NameP s:=fun h1 h2=>by rw [h2.2.2.2 k h] at h1;cases h1
  have no0:k=0→letterN (bt s k)=false→bt s k≠95→¬NameP s:=fun h1 h2 h3 h4=>by
   have:=h4.2.2.1
   rw [←h1,h2] at this
   simp at this
   exact h3 this
  have h95:bt s k=95→∀b,b=false→gram_isName.b12 R C (.int .i64 k) (.bool b) w:=fun h1 b hb=>step b (fun _=>⟨by rw [h1];rfl,fun h0=>by rw [h0] at h1;rw [h1];rfl⟩) (fun e=>by rw [hb] at e;cases e)
  have hlet:letterN (bt s k)=true→gram_isName.b12 R C (.int .i64 k) (.bool false) w:=fun h1=>step false (fun _=>⟨by simp [innerN,h1],fun h0=>by rw [h0] at h1;rw [h1];rfl⟩) (fun e=>by cases e)
  unfold gram_isName.b11
  simp [go_sem,index_bt,h]
  refine SPL_intro (fun h1=>?_) (fun h1=>?_)
  ·have h95':bt s k≠95:=by simp at h1;omega
   simp [go_sem]
      -- no letter
   have nolet:letterN (bt s k)=false→(k=0→gram_isName.b12 R C (.int .i64 k) (.bool true) w)∧(¬k=0→bt s k<48→gram_isName.b12 R C (.int .i64 k) (.bool true) w)∧(¬k=0→48≤bt s k→gram_isName.b12 R C (.int .i64 k) (.bool (decide ((57:Int)<bt s k))) w):=fun hl=>by
    refine ⟨fun h0=>step _ (fun e=>by cases e) (fun _=>no0 h0 hl h95'),fun h0 h48=>step _ (fun e=>by cases e) (fun _=>noK ?_),fun h0 h48=>step _ (fun e=>⟨?_,fun e0=>absurd e0 h0⟩) (fun e=>noK ?_)⟩
    ·simp [innerN,hl];omega
    ·simp at e;simp [innerN];omega
    ·simp at e;simp [innerN,hl];omega
   refine SPL_intro (fun h2=>?_) (fun h2=>?_)
   ·have hl:letterN (bt s k)=false:=by rw [←hor];simp at h2 ⊢;omega
    obtain ⟨n1,n2,n3⟩:=nolet hl
    simp [go_sem]
    refine SPL_intro (fun h3=>?_) (fun h3=>?_)
    ·exact n1 (by simpa using h3)
    ·have hk0:¬k=0:=by simpa using h3
     simp [go_sem]
     refine SPL_intro (fun h4=>?_) (fun h4=>?_)
     ·exact n2 hk0 (by simp at h4;omega)
     ·simp [go_sem]
      exact n3 hk0 (by simp at h4;omega)
   ·simp [go_sem]
    refine SPL_intro (fun h3=>?_) (fun h3=>?_)
    ·have hl:letterN (bt s k)=false:=by rw [←hor];simp at h2 h3 ⊢;omega
     obtain ⟨n1,n2,n3⟩:=nolet hl
     simp [go_sem]
     refine SPL_intro (fun h5=>?_) (fun h5=>?_)
     ·exact n1 (by simpa using h5)
     ·have hk0:¬k=0:=by simpa using h5
      simp [go_sem]
      refine SPL_intro (fun h4=>?_) (fun h4=>?_)
      ·exact n2 hk0 (by simp at h4;omega)
      ·simp [go_sem]
       exact n3 hk0 (by simp at h4;omega)
    ·exact hlet (by rw [←hor];simp at h2 h3 ⊢;omega)
  ·exact h95 (by simp at h1;omega) false rfl
 ·unfold gram_isName.b3
  have fin:∀b,b=nmB s→R (.returned (.bool b)) w:=fun b hb=>hR _ _ ⟨by rw [hb],Chg.refl _ _⟩
  simp [go_sem]
  refine SPL_intro (fun h1=>?_) (fun h1=>?_)
  ·have hpos:0<s.size:=by
    rcases Nat.eq_zero_or_pos s.size with h0 | h0
    ·have:=str_empty (s:=s)
     rw [h0] at this
     simp at this h1
     exact absurd this h1
    ·exact h0
   simp [go_sem]
   refine fin _ ?_
   rw [Bool.eq_iff_iff,nmB_iff]
   simp
   constructor
   ·intro h2
    exact ⟨hpos,by omega,hfst (by omega),fun i hi=>hall i (by omega)⟩
   ·intro h2;have:=h2.2.1;omega
  ·refine no fun h3=>?_
   have h4:=h3.1
   have h5:s.toList=[]:=by simpa using h1
   have h6:=size_of_nil h5
   omega

end Go.Proofs.YtckbgeedlobfaaaDoor

/-
  No text twice.
-/
namespace Go.Proofs.YtckbgeedlobfaaaDoor
open Go.Px Go.Px.Scan Go.RowKit
attribute [-go_sem] Builtin.append_

end Go.Proofs.YtckbgeedlobfaaaDoor

/-
  Searches in slices, and whether one is sorted.
-/
namespace Go.Proofs.YtckbgeedlobfaaaDoor
open Go.Px Go.Px.Scan Go.RowKit
attribute [-go_sem] Builtin.append_
attribute [local go_sem] slices_IndexFunc_string_string.b1 slices_IndexFunc_string_string.b3 slices_IndexFunc_string_string.b4 slices_IndexFunc_string_string.b7 slices_ContainsFunc_string_string.b1

end Go.Proofs.YtckbgeedlobfaaaDoor

/-
  Terminals, nonterminals, levels that fit.
-/
namespace Go.Proofs.YtckbgeedlobfaaaDoor
open Go.Px Go.Px.Scan Go.RowKit
attribute [-go_sem] Builtin.append_

end Go.Proofs.YtckbgeedlobfaaaDoor

/-
  Productions that fit.
-/
namespace Go.Proofs.YtckbgeedlobfaaaDoor
open Go.Px Go.Px.Scan Go.RowKit
attribute [-go_sem] Builtin.append_

/-- Numbers that are owned read as a slice. -/
theorem ints_own {G:Nat→Prop} {W w:World} {L:List Ch} (h:St G W w L) (k:Nat) {a:Option Addr} {n c:Nat} {l:List Int} (hk:L[k]?=some (rowC 3 1 a n c (l.map (Value.int .i64 ·)))) (hl:∀x∈l,inI64 x):(rSlice rInt).at1 w w.heap.size (.slice a n c) l:=by
 obtain ⟨F,ho,_⟩:=h.get hk
 have hn:n=l.length:=by have:=(row_size ho).1;simpa using this.symm
 subst hn
 exact slice_of_own (r:=rInt) (enc:=fun x=>[Value.int .i64 x]) (base:=0) (e:=3) (by rw [flat_one];exact ho.1) (fun _ _=>rfl) (fun x hx=>⟨rfl,hl x hx⟩) (Nat.le_refl _)

end Go.Proofs.YtckbgeedlobfaaaDoor

/-
  Valid and Closed.
-/
namespace Go.Proofs.YtckbgeedlobfaaaDoor
open Go.Px Go.Px.Scan Go.RowKit
attribute [-go_sem] Builtin.append_

end Go.Proofs.YtckbgeedlobfaaaDoor

/-
  strings.Clone.
-/
namespace Go.Proofs.YtckbgeedlobfaaaDoor
open Go.Px Go.Px.Scan Go.RowKit

theorem info_u8:(Tryd.prog.info? 5).map (fun i=>(i.zero,i.size,i.bytes))=some (some (.int .u8 0),1,1):=by kernel_rfl
theorem info_parts {P:Program} {e:TypeId} {z:Value} {sz b:Nat} (h:(P.info? e).map (fun i=>(i.zero,i.size,i.bytes))=some (some z,sz,b)):∃i,P.info? e=some i∧i.zero=some z∧i.size=sz∧i.bytes=b:=by
 cases hq:P.info? e with
 | none=>rw [hq] at h;cases h
 | some i=>rw [hq] at h;simp at h;exact ⟨i,rfl,h.1,h.2.1,h.2.2⟩

theorem chg_modify {w:World} {g:Nat} (f:Obj→Obj):Chg (·=g) w {w with heap:=w.heap.modify g f } :=
 ⟨rfl,rfl,rfl,by simp,fun k _ hk=>by rw [Array.getElem?_modify];simp [Ne.symm hk]⟩
theorem chg_setRow {w:World} {g:Nat} (cs:Array Value):Chg (·=g) w (w.setRow g cs):=chg_modify _
theorem chg_freeze {w:World} {a:Addr} {n:Nat}:Chg (·=a.block) w (w.freeze a n):=by
 unfold World.freeze
 split
 ·exact Chg.refl _ _
 ·exact chg_modify _

theorem slClone_ct {s:ByteArray} (hs:s.size≤1000) (w:World):Ct Tryd.prog internal_stringslite_Clone.id #[.string s] w fun v w'=>v = .string s∧Chg (fun _=>False) w w':=by
 refine internal_stringslite_Clone.ct fun R hR=>?_
 obtain ⟨i0,hi,hz0,hz1,hz2⟩:=info_parts info_u8
 unfold internal_stringslite_Clone.run internal_stringslite_Clone.b1
 simp [go_sem]
 refine SPL_intro (fun h=>?_) (fun h=>?_) <;> simp at h
 ·refine hR _ _ ⟨?_,Chg.refl _ _⟩
  rw [h];rfl
 ·have hpos:0<s.size:=by
   rcases Nat.eq_zero_or_pos s.size with h0 | h0
   ·exact absurd (bs_ext (by rw [show s.data.toList=[] from List.eq_nil_of_length_eq_zero (by simpa using h0)];rfl)) h
   ·exact h0
  simp [go_sem]
  rw [run_makeSlice w 160 5 i0 _ Tryd.underlying160 hi hz0 .i64 .i64 s.size s.size (by omega) (by omega) (by rw [hz1];omega) (by rw [hz2];omega) (by omega),RES_ok]
  have hcs:(madeCells (Value.int IntKind.u8 0).cells ((s.size:Int).toNat*i0.size)).size=s.size:=by rw [size_madeCells,hz1];simp
  generalize madeCells (Value.int IntKind.u8 0).cells ((s.size:Int).toNat*i0.size)=cs at hcs ⊢
  have hg1:(w.alloc (.cells cs 5)).heap[w.heap.size]?=some (.cells cs 5 (0,0)):=World.alloc_heap_new w _
  have hc1:Chg (fun _=>False) w (w.alloc (.cells cs 5)):=(Chg.refl _ _).alloc _
  generalize w.alloc (.cells cs 5)=w1 at hg1 hc1 ⊢
  have hs1:=hc1.size
  rw [RUN_eq,Int.toNat_natCast,Lib.run_copy_row_string w1 160 9 3 5 w.heap.size 0 s.size s.size s cs 5 Tryd.underlying160 (by rw [hi,Option.map_some,hz1]) hg1 (Nat.le_refl _) (by omega),RES_ok]
  have hrow:(cs.toList.take 0++Lib.byteCells s.data.toList++cs.toList.drop (0+s.size)).toArray=(Lib.byteCells s.data.toList).toArray:=by
   rw [List.take_zero,List.nil_append,List.drop_of_length_le (by simp;omega),List.append_nil]
  rw [hrow]
  have hc2:Chg (fun _=>False) w (w1.setRow w.heap.size (Lib.byteCells s.data.toList).toArray):=hc1.trans' (chg_setRow _) (fun i hi h=>by omega)
  have hg2:(w1.setRow w.heap.size (Lib.byteCells s.data.toList).toArray).heap[w.heap.size]?=some (.cells (Lib.byteCells s.data.toList).toArray 5 (0,0)):=by
   unfold World.setRow
   rw [Array.getElem?_modify,if_pos rfl,hg1]
   rfl
  generalize w1.setRow w.heap.size (Lib.byteCells s.data.toList).toArray=w2 at hc2 hg2 ⊢
  have hp:(0:Int)<s.size:=by omega
  simp [go_sem,hpos,hp]
  have hl:s.data.toList≠[]:=fun e=>by
   have h3:s.data.toList.length=s.size:=by simp
   rw [e] at h3;simp at h3;omega
  have hln:s.data.toList.length=s.size:=by simp
  have hrun:=Lib.run_unsafeString_row (P:=Tryd.prog) (w:=w2) 161 3 9 5 Tryd.underlying161 (by kernel_rfl) w.heap.size s.size (by
   unfold World.shape?
   rw [hg2]
   simp [Lib.byteCells]) s.data.toList hl (by omega) (by omega) (fun j x hj=>by
    rw [Addr.add_lit]
    simp only [World.cell?,hg2,Nat.zero_add]
    simp [Lib.byteCells,hj])
  rw [hln] at hrun
  rw [hrun,RES_ok]
  refine hR _ _ ⟨by cases s;rfl,hc2.trans' chg_freeze (fun i hi h=>?_)⟩
  simp at h;omega

theorem Clone_ct {s:ByteArray} (hs:s.size≤1000) (w:World):Ct Tryd.prog strings_Clone.id #[.string s] w fun v w'=>v = .string s∧Chg (fun _=>False) w w':=by
 refine strings_Clone.ct fun R hR=>?_
 unfold strings_Clone.run strings_Clone.b1
 exact CALL_of (slClone_ct hs w) fun v w' h=>hR v w' h
end Go.Proofs.YtckbgeedlobfaaaDoor

/-
  A builder's names.
-/
namespace Go.Px.Scan
open Go.Px
/-- The place of a text in a list; its length where it isn't there. -/
def posN:List ByteArray→ByteArray→Nat
 | [],_=>0
 | x::r,s=>if x=s then 0 else posN r s+1
theorem posN_le (l:List ByteArray) (s:ByteArray):posN l s≤l.length:=by
 induction l with
 | nil=>exact Nat.le_refl _
 | cons x r ih=>unfold posN;split <;> simp;omega
theorem posN_in {l:List ByteArray} {s:ByteArray} (h:s∈l):posN l s<l.length∧l[posN l s]?=some s:=by
 induction l with
 | nil=>cases h
 | cons x r ih =>
  unfold posN
  by_cases hx:x=s
  ·rw [if_pos hx];simp [hx]
  ·rw [if_neg hx]
   have:=ih (by rcases List.mem_cons.1 h with h | h;exact absurd h.symm hx;exact h)
   exact ⟨by simp;exact this.1,by simpa using this.2⟩
theorem posN_no {l:List ByteArray} {s:ByteArray} (h:s∉l):posN l s=l.length:=by
 induction l with
 | nil=>rfl
 | cons x r ih =>
  unfold posN
  simp at h
  rw [if_neg (fun e=>h.1 e.symm),ih h.2];rfl
theorem posN_iff {l:List ByteArray} {s:ByteArray}:posN l s<l.length↔s∈l:=by
 constructor
 ·intro h
  exact Classical.byContradiction fun h2=>by rw [posN_no h2] at h;omega
 ·exact fun h=>(posN_in h).1
theorem posN_snoc (l:List ByteArray) (x s:ByteArray):posN (l++[x]) s=if posN l s<l.length then posN l s else if x=s then l.length else l.length+1:=by
 induction l with
 | nil=>simp [posN]
 | cons y r ih =>
  have e1:posN (y::(r++[x])) s=if y=s then 0 else posN (r++[x]) s+1:=rfl
  have e2:posN (y::r) s=if y=s then 0 else posN r s+1:=rfl
  rw [List.cons_append,e1,e2,ih]
  by_cases hy:y=s
  ·simp [hy]
  ·simp only [if_neg hy,List.length_cons]
   by_cases h:posN r s<r.length
   ·have h2:posN r s+1<r.length+1:=by omega
    simp only [if_pos h,if_pos h2]
   ·have h2:¬posN r s+1<r.length+1:=by omega
    simp only [if_neg h,if_neg h2]
    split <;> rfl
/-- A text's handle; 0: it has none. -/
def posH (l:List ByteArray) (s:ByteArray):Int:=if posN l s<l.length then (posN l s:Int)+1 else 0
theorem posH_zero {l:List ByteArray} {s:ByteArray}:posH l s=0↔s∉l:=by
 unfold posH
 split
 ·rename_i h;constructor
  ·intro h2;omega
  ·intro h2;exact absurd (posN_iff.1 h) h2
 ·rename_i h;exact ⟨fun _ h2=>h (posN_iff.2 h2),fun _=>rfl⟩
theorem posH_snoc {l:List ByteArray} {x:ByteArray} (hx:x∉l) (s:ByteArray):posH (l++[x]) s=if s=x then (l.length:Int)+1 else posH l s:=by
 unfold posH
 rw [posN_snoc,List.length_append]
 by_cases hs:s=x
 ·subst hs
  have:¬posN l s<l.length:=fun h=>hx (posN_iff.1 h)
  simp [this]
 ·have:¬x=s:=fun e=>hs e.symm
  have hle:=posN_le l s
  by_cases h:posN l s<l.length
  ·simp [h,hs];intro h2;omega
  ·simp [h,hs,this]
end Go.Px.Scan

namespace Go.Proofs.YtckbgeedlobfaaaDoor
open Go.Px Go.Px.Scan Go.RowKit

theorem mapTy:MapTy Tryd.prog kStr 82 9 3 where
 tm:=Tryd.underlying82
 te:=Tryd.underlying3
 keyed:=Maps.string_keyed Tryd.underlying9
 key a ha:=WideMaps.keyOf_string_mk Tryd.underlying9 ha
 zero w:=by simp [go_sem]

/-- What is owned, with its block's mark. -/
def Row (w:World) (T:Nat→Nat) (tag:Nat) (e size:Nat) (v:Value) (n:Nat) (xs:List Value):Prop:=w.ownsRow 0 e size v n xs∧∀i,v.ownBlock=some i→T i=tag

theorem ownsRow_keep {F:Nat→Prop} {w w':World} {base e size:Nat} {v:Value} {n:Nat} {xs:List Value} (h:w.ownsRow base e size v n xs) (hc:Chg F w w') (hF:∀i,v.ownBlock=some i→¬F i):w'.ownsRow base e size v n xs:=by
 refine ⟨h.1,?_⟩
 rcases h.2 with h2 | ⟨g,cap,cur,hv,hb,hg,hr⟩
 ·exact Or.inl h2
 ·refine Or.inr ⟨g,cap,cur,hv,hb,?_,hr⟩
  rw [hc.block g (Array.getElem?_eq_some_iff.1 hg).1 (hF g (by rw [hv];rfl))]
  exact hg
theorem Row.keep {F:Nat→Prop} {w w':World} {T T':Nat→Nat} {tag e size:Nat} {v:Value} {n:Nat} {xs:List Value} (h:Row w T tag e size v n xs) (hc:Chg F w w') (hF:∀i,T i=tag→¬F i) (hT:∀i,i<w.heap.size→T' i=T i):Row w' T' tag e size v n xs :=
 ⟨ownsRow_keep h.1 hc fun i hi=>hF i (h.2 i hi),fun i hi=>by rw [hT i (ownsRow_block h.1 hi).2];exact h.2 i hi⟩

/-- Names in the builder's block, from the o-th cell on. -/
structure Nm (w:World) (T:Nat→Nat) (b o tx tm:Nat) (v m:Value) (l:List ByteArray):Prop where
 c0:w.cell? ⟨b,o,none⟩=some v
 c1:w.cell? ⟨b,o+1,none⟩=some m
 f0:w.frozen? ⟨b,o,none⟩=false
 f1:w.frozen? ⟨b,o+1,none⟩=false
 row:Row w T tx 9 1 v l.length (l.map Value.string)
 map:MapOf Tryd.prog kStr 9 3 w m l.length (posH l)
 tag:∀i,m = .map (some i)→T i=tm

theorem Nm.keep {F:Nat→Prop} {w w':World} {T T':Nat→Nat} {b o tx tm:Nat} {v m:Value} {l:List ByteArray} (h:Nm w T b o tx tm v m l) (hc:Chg F w w') (hb:¬F b) (hx:∀i,T i=tx→¬F i) (hm:∀i,T i=tm→¬F i) (hT:∀i,i<w.heap.size→T' i=T i):Nm w' T' b o tx tm v m l :=
 ⟨hc.at h.c0 hb,hc.at h.c1 hb,(hc.frozen (p:=⟨b,o,none⟩) (World.block_lt_of_cell? _ _ h.c0) hb).trans h.f0,(hc.frozen (p:=⟨b,o+1,none⟩) (World.block_lt_of_cell? _ _ h.c1) hb).trans h.f1,
  h.row.keep hc hx hT,h.map.chg hc fun i hi=>hm i (h.tag i hi),fun i hi=>by rw [hT i (h.map.lt hi)];exact h.tag i hi⟩

theorem own_shape {w:World} {base e size:Nat} {v:Value} {n:Nat} {xs:List Value} (h:w.ownsRow base e size v n xs):∃a c,v = .slice a n c:=by
 rcases h.2 with ⟨h1,h2⟩ | ⟨g,cap,cur,he,_⟩
 ·exact ⟨none,0,by rw [h1,h2]⟩
 ·exact ⟨_,_,he⟩
theorem row_len {w:World} {T:Nat→Nat} {tag e size:Nat} {v:Value} {n:Nat} {xs:List Value} (h:Row w T tag e size v n xs):∃a c,v = .slice a n c:=own_shape h.1

theorem find_ct {w:World} {T:Nat→Nat} {b o tx tm:Nat} {v m:Value} {l:List ByteArray} (h:Nm w T b o tx tm v m l) {s:ByteArray} (hs:s.size≤maxLen):Ct Tryd.prog gram_names_find.id #[.pointer (some ⟨b,o,none⟩),.string s] w fun r w'=>r = .int .i64 (posH l s)∧w=w':=by
 refine gram_names_find.ct fun R hR=>?_
 unfold gram_names_find.run gram_names_find.b1
 have hl:=h.map.lookup mapTy s hs
 simp [go_sem,h.c0,h.c1]
 rw [show (Value.string s)=kStr.val s from rfl,hl,RES_ok]
 exact hR _ _ ⟨rfl,rfl⟩

theorem size_ct {w:World} {T:Nat→Nat} {b o tx tm:Nat} {v m:Value} {l:List ByteArray} (h:Nm w T b o tx tm v m l):Ct Tryd.prog gram_names_size.id #[.pointer (some ⟨b,o,none⟩)] w fun r w'=>r = .int .i64 l.length∧w=w':=by
 refine gram_names_size.ct fun R hR=>?_
 obtain ⟨a,c,hv⟩:=row_len h.row
 have hc0:=h.c0
 rw [hv] at hc0
 unfold gram_names_size.run gram_names_size.b1
 simp [go_sem,hc0]
 exact hR _ _ ⟨rfl,rfl⟩
end Go.Proofs.YtckbgeedlobfaaaDoor
