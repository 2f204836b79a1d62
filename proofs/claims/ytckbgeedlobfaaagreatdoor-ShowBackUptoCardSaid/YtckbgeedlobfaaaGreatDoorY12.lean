/-
  Texts of this claim: Sp1, Sp2, Gs1, Gs2, Gm1, Gs3, Gs3b, Gs4, Gs5, Gs6, Gm2, Gm3.
-/
import Derived.Test.YtckbgeedlobfaaaGreatDoorY04
import Derived.Test.YtckbgeedlobfaaaGreatDoorY11
import Derived.Test.YtckbgeedlobfaaaGreatDoorY02
import Derived.Test.YtckbgeedlobfaaaGreatDoorY08
import Derived.Lib.OthersKept
import Derived.Laws.RangeAny
import Derived.Test.YtckbgeedlobfaaaGreatDoorY06
import Derived.Test.YtckbgeedlobfaaaGreatDoorY07
import Derived.Test.YtckbgeedlobfaaaGreatDoorY05
import Derived.Lib.UnsafeStr
import Derived.Lib.BufferWrite
import Derived.Laws.MakeOwn
set_option maxHeartbeats 1000000
set_option linter.unusedSimpArgs false
set_option linter.unusedVariables false
set_option maxRecDepth 100000
namespace Go.Proofs.YtckbgeedlobfaaaGreatDoor
open Go.Px Go.Px.Scan Go.Px.Spec Go.RowKit
attribute [-go_sem] Builtin.append_
structure Rdr (w:World)(b:Nat)(A:Option Addr)(c:Nat)(ws:List Wd)(i:Nat)(e:Int):Prop where
 c0:w.cell? ⟨b,0,none⟩=some (.slice A ws.length c)
 c1:w.cell? ⟨b,1,none⟩=some (.int .i64 i)
 c2:w.cell? ⟨b,2,none⟩=some (.int .i64 e)
 f1:w.frozen? ⟨b,1,none⟩=false
 lt:b<w.heap.size
 row:(rowC 73 3 A ws.length c (ws.flatMap encW)).ok w (fun _=>True)
 le:i≤ws.length
 sz:ws.length≤10000
theorem Rdr.chg {w w':World}{b:Nat}{A:Option Addr}{c:Nat}{ws:List Wd}{i:Nat}{e:Int}(h:Rdr w b A c ws i e)(hc:Chg noB w w'):Rdr w' b A c ws i e where
 c0:=(hc.cell (p:=⟨b,0,none⟩) h.lt id).trans h.c0
 c1:=(hc.cell (p:=⟨b,1,none⟩) h.lt id).trans h.c1
 c2:=(hc.cell (p:=⟨b,2,none⟩) h.lt id).trans h.c2
 f1:=(hc.frozen (p:=⟨b,1,none⟩) h.lt id).trans h.f1
 lt:=Nat.lt_of_lt_of_le h.lt hc.size
 row:=(rowC 73 3 A ws.length c (ws.flatMap encW)).keep h.row hc (fun _ _ _=>id) (fun _ _ _=>trivial)
 le:=h.le
 sz:=h.sz
theorem ZZ191 {X:Pan}{K:Value→World→Prop}{v:Value}{w:World}:RES X (.halt (.panic v) w) K=X [{v,recovered:=false }] w:=by unfold RES;rfl
attribute [go_sem] ZZ191
theorem toList_inj {a b:ByteArray}:a.toList=b.toList↔a=b:=⟨fun h=>Zh6 (by rwa [ByteArray.toList_eq,ByteArray.toList_eq]at h),fun h=>by rw[h]⟩
def badP (a:Int):List PanicEntry:=[{v := .iface 107 (.agg #[.int .i64 a]),recovered:=false }]
theorem bWd2 (x:Int)(w:World):(Instr.build 73 #[(2,.int .i64 x)]).run Tryz.prog w = .ok (.agg #[.int .i64 0,.string ⟨#[]⟩,.int .i64 x]) w:=by simp[go_sem]
attribute [go_sem ↓] bWd2
section
variable (k a:Int) (t:ByteArray) (w:World)
theorem fWd0:(Instr.field 73 (.agg #[.int .i64 k,.string t,.int .i64 a]) 0).run Tryz.prog w = .ok (.int .i64 k) w:=by simp[go_sem,Instr.field,asAgg]
theorem fWd1:(Instr.field 73 (.agg #[.int .i64 k,.string t,.int .i64 a]) 1).run Tryz.prog w = .ok (.string t) w:=by simp[go_sem,Instr.field,asAgg]
theorem fWd2:(Instr.field 73 (.agg #[.int .i64 k,.string t,.int .i64 a]) 2).run Tryz.prog w = .ok (.int .i64 a) w:=by simp[go_sem,Instr.field,asAgg]
theorem bBad:(Instr.build 107 #[(0,.int .i64 a)]).run Tryz.prog w = .ok (.agg #[.int .i64 a]) w:=by simp[go_sem]
end
attribute [go_sem ↓] fWd0 fWd1 fWd2 bBad
theorem Zss {w:World}{b:Nat}{A:Option Addr}{c:Nat}{ws:List Wd}{i:Nat}{e:Int}(h:Rdr w b A c ws i e) :
  Ct Tryz.prog Zav.id #[.pointer (some ⟨b,0,none⟩)] w fun v w'=>v=wdV (nowW ws e i)∧Chg noB w w':=by
 refine Zav.ct fun R hR=>?_
 unfold Zav.run
 simp -dsimp[go_sem]
 obtain ⟨w1,hw1⟩:∃w1,w.alloc (.cells #[.int .i64 0,.string ⟨#[]⟩,.int .i64 0] 73)=w1:=⟨_,rfl⟩
 have q0:Rdr w1 b A c ws i e:=by rw[←hw1];exact h.chg ((Chg.refl noB w).alloc _)
 have hc1:Chg noB w w1:=by rw[←hw1];exact (Chg.refl noB w).alloc _
 have ht:Tri w1 w.heap.size 0 ⟨#[]⟩ 0:=by rw[←hw1];exact ⟨Zck _ _ _ rfl 0,Zck _ _ _ rfl 1,Zck _ _ _ rfl 2,Zcs _ _ _ rfl 0,Zcs _ _ _ rfl 1,Zcs _ _ _ rfl 2⟩
 rw[hw1]
 clear hw1
 have hq:w.heap.size≤w.heap.size:=Nat.le_refl _
 revert ht hq
 generalize hqq:w.heap.size=q
 intro ht hq
 have c0:=q0.c0
 have c1:=q0.c1
 have c2:=q0.c2
 simp -dsimp[go_sem,c0,c1,c2]
 have fin:∀x:Wd,Chg noB w (((w1.setCell ⟨q,0,none⟩ (.int .i64 x.1)).setCell ⟨q,1,none⟩ (.string x.2.1)).setCell ⟨q,2,none⟩ (.int .i64 x.2.2)):=fun x=>by
  subst hqq
  exact ((hc1.setCell (p:=⟨w.heap.size,0,none⟩) (Or.inr hq) _).setCell (p:=⟨w.heap.size,1,none⟩) (Or.inr hq) _).setCell (p:=⟨w.heap.size,2,none⟩) (Or.inr hq) _
 refine Za (fun h1=>?_) (fun h1=>?_)<;>simp at h1
 ·obtain ⟨g,rfl,hcell,_⟩:=Zhl q0.row (fun _ _=>rfl) (by omega) (List.getElem?_eq_getElem h1)
  have d0:=hcell 0 _ rfl
  have d1:=hcell 1 _ rfl
  have d2:=hcell 2 _ rfl
  simp only[Nat.add_zero]at d0
  simp -dsimp[go_sem,c0,c1,c2,h1,d0,d1,d2,ht.c0,ht.c1,ht.c2,ht.f0,ht.f1,ht.f2,World.cell?_setCell_other]
  exact hR _ _ ⟨by rw[Zrq h1];rfl,(fin ws[i]).drew.drew⟩
 ·simp -dsimp[go_sem,c0,c1,c2,ht.c0,ht.c1,ht.c2,ht.f0,ht.f1,ht.f2,World.cell?_setCell_other]
  exact hR _ _ ⟨by rw[Zmo (by omega)];rfl,(fin (0,noT,e)).drew⟩
theorem Ztp {w:World}{b:Nat}{A:Option Addr}{c:Nat}{ws:List Wd}{i:Nat}{e:Int}(h:Rdr w b A c ws i e) :
  CtE Tryz.prog Zaz.id #[.pointer (some ⟨b,0,none⟩)] w fun r w'=>r = .panicked (badP (nowW ws e i).2.2)∧Chg noB w w':=by
 refine CtE.intro Zaz.enters fun R hR=>Zaz.calls R _ w ?_
 unfold Zaz.run
 simp -dsimp[go_sem]
 refine Zf (Zss h) ?_
 rintro _ w1 ⟨rfl,hc⟩
 simp -dsimp[go_sem,wdV]
 exact hR _ _ ⟨rfl,hc⟩
theorem new3 {w:World}(x:Wd):Tri (w.alloc (.cells #[.int .i64 x.1,.string x.2.1,.int .i64 x.2.2] 73)) w.heap.size x.1 x.2.1 x.2.2 :=
 ⟨Zck _ _ _ rfl 0,Zck _ _ _ rfl 1,Zck _ _ _ rfl 2,Zcs _ _ _ rfl 0,Zcs _ _ _ rfl 1,Zcs _ _ _ rfl 2⟩
theorem is_ct {w:World}{b:Nat}{A:Option Addr}{c:Nat}{ws:List Wd}{i:Nat}{e:Int}(h:Rdr w b A c ws i e)(k:Int)(t:ByteArray) :
  Ct Tryz.prog Zcb.id #[.pointer (some ⟨b,0,none⟩),.int .i64 k,.string t] w fun v w'=>v = .bool (decide ((nowW ws e i).1=k∧(nowW ws e i).2.1=t))∧Chg noB w w':=by
 refine Zcb.ct fun R hR=>?_
 unfold Zcb.run
 simp -dsimp[go_sem]
 refine Zf (Zss h) ?_
 rintro _ w1 ⟨rfl,hc⟩
 generalize nowW ws e i=x at hR ⊢
 simp -dsimp[go_sem,wdV]
 have hc2:=hc.alloc (.cells #[.int .i64 x.1,.string x.2.1,.int .i64 x.2.2] 73)
 have ht:=new3 (w:=w1) x
 generalize w1.alloc (.cells #[.int .i64 x.1,.string x.2.1,.int .i64 x.2.2] 73)=w2 at hc2 ht ⊢
 refine Za (fun h1=>?_) (fun h1=>?_)<;>simp at h1
 ·simp -dsimp[go_sem,ht.c1]
  refine hR _ _ ⟨?_,hc2⟩
  rw[h1]
  congr 1
  by_cases h2:x.2.1=t
  ·simp[h2]
  ·simp[h2,toList_inj]
 ·exact hR _ _ ⟨by simp[h1],hc2⟩
def Ahead (w:World)(b i:Nat)(w':World):Prop:=∃w1,Chg noB w w1∧w'=w1.setCell ⟨b,1,none⟩ (.int .i64 ((i:Int)+1))
theorem ZZ274 {w:World}{b:Nat}{A:Option Addr}{c:Nat}{ws:List Wd}{i:Nat}{e:Int}(h:Rdr w b A c ws i e)(t:ByteArray) :
  CtE Tryz.prog Zbb.id #[.pointer (some ⟨b,0,none⟩),.string t] w fun r w'=>
   (isSg (nowW ws e i) t=true∧r = .returned (.tuple #[])∧Ahead w b i w')∨(isSg (nowW ws e i) t=false∧r = .panicked (badP (nowW ws e i).2.2)∧Chg noB w w'):=by
 refine CtE.intro Zbb.enters fun R hR=>Zbb.calls R _ _ w ?_
 unfold Zbb.run
 simp -dsimp[go_sem]
 refine Zf (is_ct h 4 t) ?_
 rintro _ w1 ⟨rfl,hc⟩
 have h1:=h.chg hc
 have wk:IntKind.i64.wrap ((i:Int)+1)=(i:Int)+1:=IntWalk.i64_in _ (by have:=h.le;have:=h.sz;omega)
 have c1:=h1.c1
 have f1:=h1.f1
 simp -dsimp[go_sem]
 refine Za (fun h2=>?_) (fun h2=>?_)
 ·refine Zgj (Ztp h1) ?_
  rintro _ w2 ⟨rfl,hc2⟩
  exact hR _ _ (.inr ⟨by rw[isSg,Bool.decide_and,←Bool.not_eq_true',Bool.not_and];exact h2,rfl,hc.trans hc2⟩)
 ·simp -dsimp[go_sem,c1,f1,wk]
  exact hR _ _ (.inl ⟨by simpa[isSg]using h2,rfl,w1,hc,rfl⟩)
theorem ZZ324 {w:World}{b:Nat}{A:Option Addr}{c:Nat}{ws:List Wd}{i:Nat}{e:Int}(h:Rdr w b A c ws i e) :
  Ct Tryz.prog Zb2.id #[.pointer (some ⟨b,0,none⟩)] w fun v w'=>v = .bool (isTB (nowW ws e i))∧Chg noB w w':=by
 refine Zb2.ct fun R hR=>?_
 unfold Zb2.run
 simp -dsimp[go_sem]
 refine Zf (Zss h) ?_
 rintro _ w1 ⟨rfl,hc⟩
 generalize nowW ws e i=x at hR ⊢
 simp -dsimp[go_sem,wdV]
 refine Za (fun h1=>?_) (fun h1=>?_)<;>simp at h1
 ·exact hR _ _ ⟨by simp[isTB,h1],hc⟩
 ·simp -dsimp[go_sem]
  refine hR _ _ ⟨?_,hc⟩
  congr 1
  rw[Bool.eq_iff_iff]
  simp[isTB,h1]
theorem ZZ216 {w:World}{b:Nat}{A:Option Addr}{c:Nat}{ws:List Wd}{i:Nat}{e:Int}(h:Rdr w b A c ws i e) :
  CtE Tryz.prog Zb4.id #[.pointer (some ⟨b,0,none⟩)] w fun r w'=>
   ((nowW ws e i).1=1∧r = .returned (.string (nowW ws e i).2.1)∧Ahead w b i w')∨((nowW ws e i).1≠1∧r = .panicked (badP (nowW ws e i).2.2)∧Chg noB w w'):=by
 refine CtE.intro Zb4.enters fun R hR=>Zb4.calls R _ w ?_
 unfold Zb4.run
 simp -dsimp[go_sem]
 refine Zf (Zss h) ?_
 rintro _ w1 ⟨rfl,hc⟩
 have wk:IntKind.i64.wrap ((i:Int)+1)=(i:Int)+1:=IntWalk.i64_in _ (by have:=h.le;have:=h.sz;omega)
 generalize hx:nowW ws e i=x at hR ⊢
 simp -dsimp[go_sem,wdV]
 have hc2:=hc.alloc (.cells #[.int .i64 x.1,.string x.2.1,.int .i64 x.2.2] 73)
 have ht:=new3 (w:=w1) x
 have hq:w.heap.size≤w1.heap.size:=hc.size
 generalize w1.alloc (.cells #[.int .i64 x.1,.string x.2.1,.int .i64 x.2.2] 73)=w2 at hc2 ht ⊢
 generalize w1.heap.size=q at ht hq ⊢
 have h2:=h.chg hc2
 have c1:=h2.c1
 have f1:=h2.f1
 have hb:=h.lt
 have hne:((⟨q,1,none⟩:Addr)=⟨b,1,none⟩)=False:=eq_false (by intro e;injection e with e;omega)
 have d1:(w2.setCell ⟨b,1,none⟩ (.int .i64 ((i:Int)+1))).cell? ⟨q,1,none⟩=some (.string x.2.1):=by
  rw[World.cell?_setCell_other _ _ _ _ (by intro e;injection e with e;omega)];exact ht.c1
 refine Za (fun h3=>?_) (fun h3=>?_)<;>simp at h3
 ·refine Zgj (Ztp h2) ?_
  rintro _ w3 ⟨rfl,hc3⟩
  exact hR _ _ (.inr ⟨h3,by rw[hx],hc2.trans hc3⟩)
 ·simp -dsimp[go_sem,c1,f1,wk,d1]
  exact hR _ _ (.inl ⟨h3,rfl,w2,hc2,rfl⟩)
end Go.Proofs.YtckbgeedlobfaaaGreatDoor
namespace Go.Proofs.YtckbgeedlobfaaaGreatDoor
open Go.Px Go.Px.Scan Go.Px.Spec Go.RowKit
attribute [-go_sem] Builtin.append_
section
variable {G:Nat→Prop} {W w:World} {L:List Ch} {X:Pan} {K:Value→World→Prop} {b:Nat} {A:Option Addr} {c:Nat} {ws:List Wd} {i:Nat} {e:Int}
theorem _root_.Go.Px.St.rdr (s:St G W w L)(k0 k1:Nat){tl:List Value}(h0:L[k0]?=some (boxC b 102 (.slice A ws.length c :: .int .i64 i :: .int .i64 e::tl)))
  (h1:L[k1]?=some (rowC 73 3 A ws.length c (ws.flatMap encW))) (hle:i≤ws.length) (hsz:ws.length≤10000):Rdr w b A c ws i e:=by
 obtain ⟨y,yf,hb⟩:=s.box k0 h0
 obtain ⟨F,ho,_⟩:=s.get h1
 exact ⟨y.1,y.2.1,y.2.2.1,yf 1,hb,⟨ho.1,fun _ _=>trivial⟩,hle,hsz⟩
theorem Zka (s:St G W w L)(hr:Rdr w b A c ws i e)(hK:∀w',St G W w' L→Rdr w' b A c ws i e→K (wdV (nowW ws e i)) w'):CALL Tryz.prog X Zav.id #[.pointer (some ⟨b,0,none⟩)] w K:=by
 refine Zf (Zss hr) ?_
 rintro _ w' ⟨rfl,hc⟩
 exact hK _ (s.old hc) (hr.chg hc)
theorem Zim (s:St G W w L)(hr:Rdr w b A c ws i e)(hX:∀w',Chg G W w'→X (badP (nowW ws e i).2.2) w'):CALL Tryz.prog X Zaz.id #[.pointer (some ⟨b,0,none⟩)] w K:=by
 refine Zgj (Ztp hr) ?_
 rintro _ w' ⟨rfl,hc⟩
 exact hX _ (s.old hc).chg
theorem Zt4 (s:St G W w L)(hr:Rdr w b A c ws i e){k:Int}{t:ByteArray}(hK:∀w',St G W w' L→Rdr w' b A c ws i e→K (.bool (decide ((nowW ws e i).1=k∧(nowW ws e i).2.1=t))) w'):CALL Tryz.prog X Zcb.id #[.pointer (some ⟨b,0,none⟩),.int .i64 k,.string t] w K:=by
 refine Zf (is_ct hr k t) ?_
 rintro _ w' ⟨rfl,hc⟩
 exact hK _ (s.old hc) (hr.chg hc)
theorem Zmg (s:St G W w L)(hr:Rdr w b A c ws i e)(hK:∀w',St G W w' L→Rdr w' b A c ws i e→K (.bool (isTB (nowW ws e i))) w'):CALL Tryz.prog X Zb2.id #[.pointer (some ⟨b,0,none⟩)] w K:=by
 refine Zf (ZZ324 hr) ?_
 rintro _ w' ⟨rfl,hc⟩
 exact hK _ (s.old hc) (hr.chg hc)
theorem Zvs (s:St G W w L)(k0:Nat){cs:List Value}(h0:L[k0]?=some (boxC b 102 cs)){w':World}(h:Ahead w b i w'):St G W w' (L.set k0 (boxC b 102 (cs.set 1 (.int .i64 ((i:Int)+1))))):=by
 obtain ⟨w1,hc,rfl⟩:=h
 exact (s.old hc).set k0 h0 1 _
theorem Zkc (s:St G W w L)(k0:Nat){cs:List Value}(h0:L[k0]?=some (boxC b 102 cs))(hr:Rdr w b A c ws i e){t:ByteArray}
  (hK:isSg (nowW ws e i) t=true→i<ws.length→∀w',St G W w' (L.set k0 (boxC b 102 (cs.set 1 (.int .i64 ((i:Int)+1)))))→K (.tuple #[]) w')
  (hX:isSg (nowW ws e i) t=false→∀w',Chg G W w'→X (badP (nowW ws e i).2.2) w'):CALL Tryz.prog X Zbb.id #[.pointer (some ⟨b,0,none⟩),.string t] w K:=by
 refine Zgj (ZZ274 hr t) ?_
 rintro _ w' (⟨h1,rfl,h2⟩|⟨h1,rfl,hc⟩)
 ·refine hK h1 (Zhp (ws:=ws) (e:=e) (i:=i) ?_) _ (Zvs s k0 h0 h2)
  simp only[isSg,decide_eq_true_eq]at h1
  rw[h1.1];decide
 ·exact hX h1 _ (s.old hc).chg
theorem Zr1 (s:St G W w L)(k0:Nat){cs:List Value}(h0:L[k0]?=some (boxC b 102 cs))(hr:Rdr w b A c ws i e)
  (hK:(nowW ws e i).1=1→i<ws.length→∀w',St G W w' (L.set k0 (boxC b 102 (cs.set 1 (.int .i64 ((i:Int)+1)))))→K (.string (nowW ws e i).2.1) w')
  (hX:(nowW ws e i).1≠1→∀w',Chg G W w'→X (badP (nowW ws e i).2.2) w'):CALL Tryz.prog X Zb4.id #[.pointer (some ⟨b,0,none⟩)] w K:=by
 refine Zgj (ZZ216 hr) ?_
 rintro _ w' (⟨h1,rfl,h2⟩|⟨h1,rfl,hc⟩)
 ·exact hK h1 (Zhp (ws:=ws) (e:=e) (i:=i) (by rw[h1];decide)) _ (Zvs s k0 h0 h2)
 ·exact hX h1 _ (s.old hc).chg
end
structure RD where
 km:Value
 kc:Nat
 ah:Option Addr
 ch:Nat
 vs:List Value
 lm:Value
 lc:Nat
 ar:Option Addr
 cr:Nat
 us:List Value
def encH (h:(Nat×List ByteArray)×Value):List Value:=[.int .i64 h.1.1,h.2]
def encR (r:RowS×Value):List Value:=[.string r.1.left,r.2,.string r.1.by_,.bool (decide (r.1.said=2))]
def knF (hs:List (Nat×List ByteArray))(s:ByteArray):Int:=kn hs s
def cnt (l:List ByteArray)(s:ByteArray):Int:=(l.filter fun x=>decide (x=s)).length
def Zea (A:Option Addr)(c:Nat)(ws:List Wd)(e:Int)(i:Nat)(hs:List (Nat×List ByteArray))(st:ByteArray)(rs:List RowS)(D:RD):List Value :=
 [.slice A ws.length c,.int .i64 i,.int .i64 e,D.km,.slice D.ah hs.length D.ch,.string st,D.lm,.slice D.ar rs.length D.cr]
def rdL (b:Nat)(A:Option Addr)(c:Nat)(ws:List Wd)(e:Int)(i:Nat)(hs:List (Nat×List ByteArray))(st:ByteArray)(ls:List ByteArray)(rs:List RowS)(D:RD):List Ch :=
 [boxC b 102 (Zea A c ws e i hs st rs D),rowC 73 3 A ws.length c (ws.flatMap encW),mapC Tryz.prog kStr 9 3 D.km D.kc (knF hs),
   rowC 118 2 D.ah hs.length D.ch ((hs.zip D.vs).flatMap encH),Zeg 9 1 D.vs (hs.map fun h=>h.2.map Value.string),
   mapC Tryz.prog kStr 9 3 D.lm D.lc (cnt ls),
   rowC 124 4 D.ar rs.length D.cr ((rs.zip D.us).flatMap encR),Zeg 73 3 D.us (rs.map fun r=>r.words.flatMap encW)]
structure Rb (ws:List Wd)(i:Nat)(hs:List (Nat×List ByteArray))(ls:List ByteArray)(rs:List RowS)(D:RD):Prop where
 le:i≤ws.length
 sz:ws.length≤10000
 kc:D.kc≤i
 lc:D.lc≤i
 hs:hs.length≤i
 rs:rs.length≤i
 ls:ls.length≤i
 km:∃p,D.km = .map (some p)
 lm:∃p,D.lm = .map (some p)
 tx:∀x∈ws,x.2.1.size≤maxLen
theorem Zvi {ws:List Wd}{e:Int}{i:Nat}(h:∀x∈ws,x.2.1.size≤maxLen):(nowW ws e i).2.1.size≤maxLen:=by
 by_cases hi:i<ws.length
 ·rw[Zrq hi];exact h _ (List.getElem_mem hi)
 ·rw[Zmo hi];exact Nat.zero_le _
end Go.Proofs.YtckbgeedlobfaaaGreatDoor
namespace Go.Px.Scan
open Go.Px
structure Gr where
 terms:List (ByteArray×Int)
 nons:List ByteArray
 levels:List Int
 start:Int
 prods:List (Int×List Int×Int)
def addL (acc:List Int)(x:Int):List Int:=if x∈acc then acc else acc++[x]
def Zj (l:List (Int×List Int×Int)):List Int:=l.foldl (fun a p=>addL a p.1) []
structure Zr3 (g:Gr)(t:ByteArray×Int):Prop where
 name:Zec t.1
 lo:0≤t.2
 hi:t.2≤g.levels.length
structure Zll (g:Gr)(a:Nat):Prop where
 t0:g.terms.head?=some (⟨#[]⟩,0)
 n0:a<g.nons.length
 t1:g.terms.length≤65
 n1:g.nons.length≤64+a
 sum:g.terms.length-1+(g.nons.length-a)≤64
 terms:∀t∈g.terms.tail,Zr3 g t
 levels:∀i (h:i<g.levels.length),1≤g.levels[i]∧g.levels[i]≤3∧∃t∈g.terms.tail,t.2=(i:Int)+1
 tnd:(g.terms.tail.map (·.1)).Nodup
 nnd:(g.nons.drop a).Nodup
 nnam:∀s∈g.nons.drop a,Zfi s
structure Zh4 (g:Gr)(a:Nat)(p:Int×List Int×Int):Prop where
 l0:(g.terms.length+a:Int)≤p.1
 l1:p.1<(g.terms.length+g.nons.length:Int)
 v0:0≤p.2.2
 v1:p.2.2≤g.levels.length
 right:∀s∈p.2.1,1≤s∧s<(g.terms.length+g.nons.length:Int)∧((g.terms.length:Int)≤s→(g.terms.length+a:Int)≤s)
structure Zhz (g:Gr)(a:Nat):Prop where
 c0:a<g.prods.length
 c1:g.prods.length≤96+a
 each:∀p∈g.prods.drop a,Zh4 g a p
 lefts:(Zj (g.prods.drop a)).length+a=g.nons.length
 s0:(g.terms.length+a:Int)≤g.start
 s1:g.start<(g.terms.length+g.nons.length:Int)
structure Zbh (g:Gr):Prop where
 syms:Zll g 0
 prods:Zhz g 0
 sorted:(Zj g.prods).Pairwise (·≤·)
structure Zqj (g:Gr):Prop where
 first:g.nons.head?=some ⟨#[]⟩
 syms:Zll g 1
 prods:Zhz g 1
 added:g.prods.head?=some ((g.terms.length:Int),[g.start],0)
open Classical in
noncomputable def symB (g:Gr)(a:Nat):Bool:=decide (Zll g a)
open Classical in
noncomputable def Zzo (g:Gr)(a:Nat):Bool:=decide (Zhz g a)
open Classical in
noncomputable def Zrv (g:Gr):Bool:=decide (Zbh g)
open Classical in
noncomputable def Zqv (g:Gr):Bool:=decide (Zqj g)
theorem Zi2 {g:Gr}{a:Nat}:symB g a=true↔Zll g a:=@decide_eq_true_iff _ (_)
theorem Zf6 {g:Gr}{a:Nat}:Zzo g a=true↔Zhz g a:=@decide_eq_true_iff _ (_)
theorem Zfz {g:Gr}:Zrv g=true↔Zbh g:=@decide_eq_true_iff _ (_)
theorem Zjs {g:Gr}:Zqv g=true↔Zqj g:=@decide_eq_true_iff _ (_)
theorem Zfp {b:Bool}{p:Prop}(i:b=true↔p)(h:¬p):b=false:=by
 cases b
 ·rfl
 ·exact absurd (i.1 rfl) h
theorem Zn2 {a b:Bool}(h:a=true↔b=true):a=b:=Bool.eq_iff_iff.2 h
theorem Zwe {acc:List Int}(h:acc.Nodup)(x:Int):(addL acc x).Nodup:=by
 unfold addL
 split
 ·exact h
 ·rename_i hx
  refine List.nodup_append.2 ⟨h,by simp,fun a ha b hb=>?_⟩
  simp at hb
  subst hb
  intro e;subst e;exact hx ha
theorem ZZ162 {acc:List Int}{x y:Int}:y∈addL acc x↔y∈acc∨y=x:=by
 unfold addL
 split
 ·rename_i hx
  exact ⟨Or.inl,fun h=>h.elim id fun e=>e ▸ hx⟩
 ·simp
theorem Zir (l:List (Int×List Int×Int))(p:Int×List Int×Int):Zj (l++[p])=addL (Zj l) p.1:=by simp[Zj]
theorem Zm1 (l:List (Int×List Int×Int)):∀acc:List Int,acc.Nodup→(l.foldl (fun a p=>addL a p.1) acc).Nodup∧∀y,y∈l.foldl (fun a p=>addL a p.1) acc↔y∈acc∨∃p∈l,p.1=y:=by
 induction l with
 | nil=>intro acc h;exact ⟨h,fun y=>by simp⟩
 | cons p r ih=>
  intro acc h
  obtain ⟨h1,h2⟩:=ih (addL acc p.1) (Zwe h _)
  refine ⟨h1,fun y=>?_⟩
  rw[List.foldl_cons,h2,ZZ162]
  simp[or_assoc,eq_comm]
theorem Zkh (l:List (Int×List Int×Int)):(Zj l).Nodup:=(Zm1 l [] (by simp)).1
theorem Zjn {l:List (Int×List Int×Int)}{y:Int}:y∈Zj l↔∃p∈l,p.1=y:=by
 have:=(Zm1 l [] (by simp)).2 y
 simpa[Zj]using this
theorem Zhx {α:Type}[DecidableEq α]:∀{l m:List α},l.Nodup→(∀x∈l,x∈m)→l.length≤m.length
 | [],_,_,_=>Nat.zero_le _
 | x::l,m,h,hs=>by
  rw[List.nodup_cons]at h
  have hx:=hs x (by simp)
  have:=Zhx (l:=l) (m:=m.erase x) h.2 fun y hy=>(List.mem_erase_of_ne (fun e=>h.1 (by rw[←e];exact hy))).2 (hs y (by simp[hy]))
  rw[List.length_erase_of_mem hx]at this
  have hpos:0<m.length:=List.length_pos_of_mem hx
  simp
  omega
theorem Zw1 {l:List Int}(hnd:l.Nodup){t:Int}(hb:∀x∈l,t≤x∧x<t+l.length):l.Pairwise (·≤·)↔∀i (h:i<l.length),l[i]=t+i:=by
 constructor
 ·intro hp
  have hlt:∀i j (hi:i<j) (hj:j<l.length),l[i]<l[j]:=by
   intro i j hi hj
   have h1:=List.pairwise_iff_getElem.1 hp i j (by omega) hj hi
   have h2:=List.pairwise_iff_getElem.1 hnd i j (by omega) hj hi
   have h3:l[i]≠l[j]:=h2
   omega
  have lo:∀i (h:i<l.length),t+i≤l[i]:=by
   intro i
   induction i with
   | zero=>intro h;have:=(hb l[0] (List.getElem_mem h)).1;simpa using this
   | succ i ih=>
    intro h
    have h1:=ih (by omega)
    have h2:=hlt i (i+1) (by omega) h
    omega
  have hi':∀d i (h:i<l.length),i+d+1=l.length→l[i]≤t+i:=by
   intro d
   induction d with
   | zero=>intro i h e;have:=(hb l[i] (List.getElem_mem h)).2;omega
   | succ d ih=>
    intro i h e
    have h1:=ih (i+1) (by omega) (by omega)
    have h2:=hlt i (i+1) (by omega) (by omega)
    omega
  intro i h
  have:=lo i h
  have:=hi' (l.length-i-1) i h (by omega)
  omega
 ·intro h
  refine List.pairwise_iff_getElem.2 fun i j hi hj hij=>?_
  rw[h i hi,h j hj];omega
theorem Zhz.row {g:Gr}(h:Zhz g 0):(Zj g.prods).Pairwise (·≤·)↔∀i (hi:i<(Zj g.prods).length),(Zj g.prods)[i]=(g.terms.length:Int)+i:=by
 have hl:=h.lefts
 rw[List.drop_zero]at hl
 refine Zw1 (Zkh _) fun x hx=>?_
 obtain ⟨p,hp,rfl⟩:=Zjn.1 hx
 have:=h.each p (by simpa using hp)
 have h1:=this.l0
 have h2:=this.l1
 omega
theorem Zll.lev {g:Gr}{a:Nat}(h:Zll g a):g.levels.length≤64:=by
 have h1:((List.range g.levels.length).map fun i:Nat=>(i:Int)+1).length≤(g.terms.tail.map (·.2)).length:=by
  refine Zhx ?_ fun x hx=>?_
  ·refine List.pairwise_map.2 ?_
   refine List.Pairwise.imp ?_ (List.nodup_range (n:=g.levels.length))
   intro a b hab e
   exact hab (by omega)
  ·obtain ⟨i,hi,rfl⟩:=List.mem_map.1 hx
   obtain ⟨_,_,t,ht,e⟩:=h.levels i (by simpa using hi)
   exact List.mem_map.2 ⟨t,ht,e⟩
 have:=h.t1
 simp at h1
 omega
end Go.Px.Scan
namespace Go.Px.Scan
open Go.Px Go.RowKit
def Zl1:Rep (ByteArray×Int):=rStr.prod rInt
def rPr:Rep (Int×List Int×Int):=rInt.prod ((Zo rInt).prod rInt)
def Zcz:Rep Gr:=Rep.map ((Zo Zl1).prod ((Zo rStr).prod ((Zo rInt).prod (rInt.prod (Zo rPr))))) fun g=>(g.terms,g.nons,g.levels,g.start,g.prods)
section
variable {w:World} {B:Nat} {A:Option Addr} {n c:Nat}
theorem Zdw {l:List (ByteArray×Int)}(h:(Zo Zl1).at1 w B (.slice A n c) l){i:Nat}(hi:i<l.length) :
  ∃b o,A=some ⟨b,o,none⟩∧b<B∧w.cell? ⟨b,o+i*2,none⟩=some (.string l[i].1)∧w.cell? ⟨b,o+i*2+1,none⟩=some (.int .i64 l[i].2)∧l[i].1.size≤maxLen∧Zz l[i].2:=by
 obtain ⟨b,o,ys,hA,hb,⟨c1,c2,rfl,⟨rfl,h1⟩,rfl,h2⟩,hc⟩:=Zj5 h hi
 exact ⟨b,o,hA,hb,hc 0 _ rfl,hc 1 _ rfl,h1,h2⟩
theorem Zev {l:List (Int×List Int×Int)}(h:(Zo rPr).at1 w B (.slice A n c) l){i:Nat}(hi:i<l.length) :
  ∃b o v,A=some ⟨b,o,none⟩∧b<B∧w.cell? ⟨b,o+i*3,none⟩=some (.int .i64 l[i].1)∧w.cell? ⟨b,o+i*3+1,none⟩=some v∧w.cell? ⟨b,o+i*3+2,none⟩=some (.int .i64 l[i].2.2) ∧
   (Zo rInt).at1 w B v l[i].2.1∧Zz l[i].1∧Zz l[i].2.2:=by
 obtain ⟨b,o,ys,hA,hb,⟨c1,c2,rfl,⟨rfl,h1⟩,c3,c4,rfl,h2,rfl,h3⟩,hc⟩:=Zj5 h hi
 obtain ⟨A',k,rfl,h4⟩:=h2
 exact ⟨b,o,_,hA,hb,hc 0 _ rfl,hc 1 _ rfl,hc 2 _ rfl,⟨A',k,rfl,h4⟩,h1,h3⟩
structure GrV (w:World)(B:Nat)(v:Value)(g:Gr):Prop where
 ex:∃A1 c1 A2 c2 A3 c3 A4 c4,v = .agg #[.slice A1 g.terms.length c1,.slice A2 g.nons.length c2,.slice A3 g.levels.length c3,.int .i64 g.start,.slice A4 g.prods.length c4] ∧
  (Zo Zl1).at1 w B (.slice A1 g.terms.length c1) g.terms∧(Zo rStr).at1 w B (.slice A2 g.nons.length c2) g.nons∧(Zo rInt).at1 w B (.slice A3 g.levels.length c3) g.levels∧Zz g.start∧(Zo rPr).at1 w B (.slice A4 g.prods.length c4) g.prods ∧
  (g.terms.length≤c1∧c1≤maxLen)∧(g.nons.length≤c2∧c2≤maxLen)∧(g.levels.length≤c3∧c3≤maxLen)∧(g.prods.length≤c4∧c4≤maxLen)
theorem Zbl {v:Value}{g:Gr}(h:Zcz.atN w B v g):GrV w B v g:=by
 obtain ⟨cs,rfl,x1,y1,e1,h1,x2,y2,e2,h2,x3,y3,e3,h3,x4,y4,e4,⟨h4,i4⟩,h5⟩:=h
 obtain ⟨A1,c1,f1,l1,m1,_⟩:=id h1
 obtain ⟨A2,c2,f2,l2,m2,_⟩:=id h2
 obtain ⟨A3,c3,f3,l3,m3,_⟩:=id h3
 obtain ⟨A4,c4,f4,l4,m4,_⟩:=id h5
 subst f1 f2 f3 h4 f4 e4 e3 e2 e1
 exact ⟨A1,c1,A2,c2,A3,c3,A4,c4,rfl,h1,h2,h3,i4,h5,⟨l1,m1⟩,⟨l2,m2⟩,⟨l3,m3⟩,⟨l4,m4⟩⟩
theorem Zu8 {g:Gr}{A1 A2 A3 A4:Option Addr}{n1 c1 n2 c2 n3 c3 n4 c4:Nat}{s:Value}(h1:(Zo Zl1).at1 w B (.slice A1 n1 c1) g.terms)(h2:(Zo rStr).at1 w B (.slice A2 n2 c2) g.nons)(h3:(Zo rInt).at1 w B (.slice A3 n3 c3) g.levels)
  (hs:s = .int .i64 g.start) (h4:Zz g.start) (h5:(Zo rPr).at1 w B (.slice A4 n4 c4) g.prods):Zcz.atN w B (.agg #[.slice A1 n1 c1,.slice A2 n2 c2,.slice A3 n3 c3,s,.slice A4 n4 c4]) g:=by
 subst hs
 exact ⟨_,rfl,[_],_,rfl,h1,[_],_,rfl,h2,[_],_,rfl,h3,[_],_,rfl,⟨rfl,h4⟩,h5⟩
theorem Za2 {w':World}{v:Value}{g:Gr}(h:Zcz.atN w B v g)(hb:Below B w w'):Zcz.atN w' B v g:=by
 obtain ⟨cs,rfl,hc⟩:=h
 exact ⟨cs,rfl,Zcz.keep hc (Nat.le_refl _) hb.block⟩
theorem Zvg {B':Nat}{v:Value}{g:Gr}(h:Zcz.atN w B v g)(hB:B≤B'):Zcz.atN w B' v g:=by
 obtain ⟨cs,rfl,hc⟩:=h
 exact ⟨cs,rfl,Zcz.keep hc hB fun _ _=>rfl⟩
theorem Zfu {α β:Type}(f:α→β)(l:List α):l.flatMap (fun x=>[f x])=l.map f:=by
 induction l with
 | nil=>rfl
 | cons x r ih=>simp[ih]
theorem Zwq {α:Type}{r:Rep α}{l:List α}{b o k:Nat}(h:(Zo r).at1 w B (.slice (some ⟨b,o,none⟩) l.length c) l)(hk:k≤l.length):(Zo r).at1 w B (.slice (some ⟨b,o+k*r.size,none⟩) (l.length-k) (c-k)) (l.drop k):=by
 obtain ⟨A',c',hv,h1,h2,h3,h4⟩:=h
 injection hv with hv _
 injection hv with hA _ hc
 subst hc
 refine ⟨_,c-k,by rw[List.length_drop],by rw[List.length_drop];omega,by omega,trivial,fun hpos=>?_⟩
 rw[List.length_drop]at hpos
 obtain ⟨b',o',e,hb,hcell⟩:=h4 (by omega)
 rw[←hA]at e
 injection e with e
 injection e with e1 e2
 subst e1 e2
 refine ⟨b,o+k*r.size,rfl,hb,fun i x hi=>?_⟩
 rw[List.getElem?_drop]at hi
 obtain ⟨ys,hy,hu⟩:=hcell (k+i) x hi
 refine ⟨ys,hy,fun j u hj=>?_⟩
 have:=hu j u hj
 rw[Nat.add_mul]at this
 rw[show o+k*r.size+(i*r.size+j)=o+(k*r.size+i*r.size+j) by omega]
 exact this
theorem slice_from {α:Type}{r:Rep α}{l:List α}{b o o' k:Nat}(h:(Zo r).at1 w B (.slice (some ⟨b,o,none⟩) l.length c) l)(hk:k≤l.length)(ho:o'=o+k*r.size) :
  (Zo r).at1 w B (.slice (if c=k then some ⟨b,o,none⟩ else some ⟨b,o',none⟩) (l.length-k) (c-k)) (l.drop k):=by
 subst ho
 by_cases e:c=k
 ·obtain ⟨A',c',hv,h1,h2,h3,h4⟩:=id h
  injection hv with hv _
  injection hv with hA _ hc
  have hl:l.length=k:=by omega
  rw[if_pos e]
  refine ⟨_,c-k,by rw[List.length_drop],by rw[List.length_drop];omega,by omega,trivial,fun hpos=>?_⟩
  rw[List.length_drop]at hpos
  omega
 ·rw[if_neg e]
  exact Zwq h hk
theorem slice_nil {α:Type}{r:Rep α}{n c:Nat}{l:List α}(h:(Zo r).at1 w B (.slice none n c) l):l=[]:=by
 obtain ⟨A',c',hv,h1,h2,h3,h4⟩:=h
 rcases Nat.eq_zero_or_pos l.length with h0|h0
 ·exact List.eq_nil_of_length_eq_zero h0
 ·obtain ⟨b,o,e,_⟩:=h4 h0
  injection hv with hv;injection hv with hA;rw[e]at hA;cases hA
end
end Go.Px.Scan
namespace Go.Px.Scan
open Classical in
noncomputable def nmB (s:ByteArray):Bool:=decide (Zfi s)
open Classical in
noncomputable def tmB (s:ByteArray):Bool:=decide (Zec s)
theorem Zho {s:ByteArray}:nmB s=true↔Zfi s:=@decide_eq_true_iff _ (_)
theorem Zhu {s:ByteArray}:tmB s=true↔Zec s:=@decide_eq_true_iff _ (_)
theorem ZZ169 {s:ByteArray}(h:¬Zfi s):nmB s=false:=by rw[Bool.eq_false_iff];exact fun h'=>h (Zho.1 h')
theorem ZZ183 {s:ByteArray}(h:¬Zec s):tmB s=false:=by rw[Bool.eq_false_iff];exact fun h'=>h (Zhu.1 h')
end Go.Px.Scan
namespace Go.Proofs.YtckbgeedlobfaaaGreatDoor
open Go.Px Go.Px.Scan Go.RowKit
theorem ZZ90 {p:Nat→Prop}(h:∀c:Fin 256,p c.val)(c:Nat)(hc:c<256):p c:=h ⟨c,hc⟩
theorem or32 (c:Nat)(hc:c<256):(decide (97≤bits BinOp.or IntKind.u8 (c:Int) 32) && decide (bits BinOp.or IntKind.u8 (c:Int) 32≤122))=Zcd c :=
 ZZ90 (p:=fun c=>(decide (97≤bits BinOp.or IntKind.u8 (c:Int) 32) && decide (bits BinOp.or IntKind.u8 (c:Int) 32≤122))=Zcd c) (by decide +kernel) c hc
theorem Zv6 (r:Int)(w:World):Ct Tryz.prog Zdi.id #[.int .i32 r] w fun v w'=>v = .bool (decide (r<32∨126<r∨r=39))∧w=w':=by
 refine Zdi.ct fun R hR=>?_
 unfold Zdi.run Zdi.b1
 simp[go_sem]
 refine Za (fun h=>?_) (fun h=>?_)<;>simp at h
 ·exact hR _ _ ⟨by simp[h],rfl⟩
 ·simp[go_sem]
  refine Za (fun h2=>?_) (fun h2=>?_)<;>simp at h2
  ·exact hR _ _ ⟨by simp[h2],rfl⟩
  ·simp[go_sem]
   refine hR _ _ ⟨?_,rfl⟩
   congr 1
   rw[Bool.eq_iff_iff]
   simp
   omega
theorem ZZ73 {w:World}{k:Nat}(s:ByteArray)(pos:Nat):Chg (·=k) w (w.iterAt k s pos) :=
 ⟨rfl,rfl,rfl,by rw[Lib.iterAt_size];exact Nat.le_refl _,fun i _ hi=>Lib.iterAt_other w k i s pos hi⟩
theorem Zr0 {s:ByteArray}(hs:s.size≤maxLen)(w:World):Ct Tryz.prog Zcq.id #[.string s,.func (.func Zdi.id) #[] #[]] w fun v w'=>(∃i,v = .int .i64 i∧(0≤i↔¬∀j,j<s.size→Zb3 (bt s j)=true))∧Chg (fun _=>False) w w':=by
 refine Zcq.ct fun R hR=>?_
 unfold Zcq.run Zcq.b1
 refine Zf (S:=fun v w'=>(∃i,v = .int .i64 i∧(0≤i↔¬∀j,j<s.size→Zb3 (bt s j)=true))∧Chg (fun _=>False) w w') (Zbf.ct fun R hR=>?_) (fun v w' h=>hR v w' h)
 unfold Zbf.run Zbf.b1 Zbf.b4
 simp[go_sem]
 have hc0:Chg (fun _=>False) w (w.iter s 0):=(Chg.refl _ _).alloc _
 have hk0:(w.iter s 0).heap[w.heap.size]?=some (.stringIter s 0):=World.iter_heap w s 0
 refine Zbf.l6_intro _ _ _ _ _ (fun W=>∃j,j≤s.size∧W.heap[w.heap.size]?=some (.stringIter s j)∧(∀i,i<j→Zb3 (bt s i)=true)∧Chg (fun _=>False) w W) (fun W=>s.size-W.iterPos w.heap.size) ⟨0,Nat.zero_le _,hk0,fun i h=>by omega,hc0⟩ ?_
 rintro W ⟨j,hj,hk,hall,hc⟩ C hC
 unfold Zbf.b7
 by_cases hlt:j<s.size
 ·have hb:(s[j]'hlt).toNat=bt s j:=by unfold bt;rw[dif_pos hlt]
  rw[Zd0,Lib.run_next_any_at W w.heap.size s j 0 hk hlt,Zb9]
  simp[go_sem]
  refine Zi4 (Zv6 _ _) ?_
  rintro _ _ ⟨rfl,rfl⟩
  simp[go_sem]
  have hci:Chg (fun _=>False) w (W.iterAt w.heap.size s (j+(Utf8.decode s j).2)):=hc.trans' (ZZ73 s _) (fun i hi h=>by omega)
  refine Za (fun h=>?_) (fun h=>?_)
  ·refine hR _ _ ⟨⟨j,rfl,?_⟩,hci⟩
   refine ⟨fun _ hp=>?_,fun _=>by omega⟩
   have h1:=hp j hlt
   have h2:bt s j<128:=by simp[Zb3]at h1;omega
   rw[decode_ascii s j hlt (by rw[hb];exact h2),hb]at h
   simp[Zb3]at h1 h
   omega
  ·have hlow:bt s j<128:=by
    rcases Nat.lt_or_ge (bt s j) 128 with h2|h2
    ·exact h2
    ·have:=(decode_high s j hlt (by rw[hb];exact h2)).1
     simp at h
     omega
   have hd:=decode_ascii s j hlt (by rw[hb];exact hlow)
   rw[hd]at h hci ⊢
   rw[hb]at h
   simp at h
   refine hC _ ⟨j+1,hlt,Lib.iterAt_heap _ _ _ _ _ hk,fun i hi=>?_,hci⟩ ?_
   ·by_cases he:i=j
    ·rw[he];simp[Zb3];omega
    ·exact hall i (by omega)
   ·unfold World.iterPos
    rw[Lib.iterAt_heap _ _ _ _ _ hk,hk]
    simp;omega
 ·rw[Zd0,Lib.run_next_end_at W w.heap.size s j 0 hk hlt,Zb9]
  simp[go_sem]
  unfold Zbf.b3
  refine hR _ _ ⟨⟨-1,rfl,?_⟩,hc⟩
  refine ⟨fun h=>by omega,fun h=>absurd (fun i hi=>hall i (by omega)) h⟩
theorem Zsl {s:ByteArray}:(s.toList == [])=decide (s.size=0):=by
 rw[ByteArray.toList_eq]
 by_cases h:s.size=0
 ·have:s.data.toList=[]:=List.eq_nil_of_length_eq_zero (by simpa using h)
  simp[this,h]
 ·have:s.data.toList≠[]:=fun e=>h (by have:=congrArg List.length e;simpa using this)
  rw[beq_eq_false_iff_ne.2 this];simp[h]
theorem Zm3 {s:ByteArray}(h:s.toList=[]):s.size=0:=by
 rw[ByteArray.toList_eq]at h
 have h2:s.data.toList.length=s.size:=by simp
 rw[h]at h2
 exact h2.symm
theorem Zm0 {s:ByteArray}(hs:s.size≤maxLen)(w:World):Ct Tryz.prog Zd7.id #[.string s] w fun v w'=>v = .bool (tmB s)∧Chg (fun _=>False) w w':=by
 refine Zd7.ct fun R hR=>?_
 have no:¬Zec s→R (.returned (.bool false)) w:=fun h=>hR _ _ ⟨by rw[ZZ183 h],Chg.refl _ _⟩
 unfold Zd7.run Zd7.b1
 simp[go_sem]
 refine Za (fun h=>?_) (fun h=>?_)
 ·have hpos:0<s.size:=by
   rcases Nat.eq_zero_or_pos s.size with h0|h0
   ·have:=Zsl (s:=s)
    rw[h0]at this
    simp at this h
    exact absurd this h
   ·exact h0
  simp[go_sem]
  refine Za (fun h2=>?_) (fun h2=>?_)<;>simp at h2
  ·refine Zf (Zr0 hs w) ?_
   rintro _ w1 ⟨⟨i,rfl,hi⟩,hc⟩
   simp[go_sem]
   refine hR _ _ ⟨?_,hc⟩
   congr 1
   rw[Bool.eq_iff_iff,Zhu,decide_eq_true_iff]
   constructor
   ·intro h3
    refine ⟨hpos,by omega,?_⟩
    exact Classical.byContradiction fun h4=>by have:=hi.2 h4;omega
   ·intro h3
    rcases Int.lt_or_le i 0 with h4|h4
    ·exact h4
    ·exact absurd h3.2.2 (hi.1 h4)
  ·exact no fun h3=>by have:=h3.2.1;omega
 ·refine no fun h3=>?_
  have h4:=h3.1
  have h5:s.toList=[]:=by simpa using h
  have h6:=Zm3 h5
  omega
theorem Znt {s:ByteArray}(hs:s.size≤maxLen)(w:World):Ct Tryz.prog Za5.id #[.string s] w fun v w'=>v = .bool (nmB s)∧Chg (fun _=>False) w w':=by
 refine Za5.ct fun R hR=>?_
 have no:¬Zfi s→R (.returned (.bool false)) w:=fun h=>hR _ _ ⟨by rw[ZZ169 h],Chg.refl _ _⟩
 unfold Za5.run Za5.b1 Za5.b4
 simp[go_sem]
 refine Za5.l6_intro _ _ _ _ _ (fun x w1=>∃k:Nat,x = .int .i64 k∧k≤s.size∧(∀i,i<k→Zbq (bt s i)=true)∧(0<k→(Zcd (bt s 0) || decide (bt s 0=95))=true)∧w=w1) (fun x _=>s.size-iv x) ⟨0,rfl,by omega,fun i h=>by omega,fun h=>by omega,rfl⟩ ?_
 rintro _ _ ⟨k,rfl,hk,hall,hfst,rfl⟩ C hC
 unfold Za5.b7
 simp[go_sem]
 refine Za (fun h=>?_) (fun h=>?_)<;>simp at h
 ·have step:∀b,(b=false→Zbq (bt s k)=true∧(k=0→(Zcd (bt s 0) || decide (bt s 0=95))=true))→(b=true→¬Zfi s)→Za5.b12 R C (.int .i64 k) (.bool b) w:=by
   intro b h1 h2
   unfold Za5.b12
   cases b with
   | true=>simp[go_sem];exact no (h2 rfl)
   | false=>
    simp[go_sem]
    unfold Za5.b9
    simp[go_sem,Zau h hs]
    refine hC _ _ ⟨k+1,by simp,by omega,fun i hi=>?_,fun _=>?_,rfl⟩ (by simp[iv];omega)
    ·by_cases he:i=k
     ·rw[he];exact (h1 rfl).1
     ·exact hall i (by omega)
    ·by_cases he:k=0
     ·exact (h1 rfl).2 he
     ·exact hfst (by omega)
  have hb:=Zxp s k
  have hor:=or32 (bt s k) hb
  have noK:Zbq (bt s k)=false→¬Zfi s:=fun h1 h2=>by rw[h2.2.2.2 k h]at h1;cases h1
  have no0:k=0→Zcd (bt s k)=false→bt s k≠95→¬Zfi s:=fun h1 h2 h3 h4=>by
   have:=h4.2.2.1
   rw[←h1,h2]at this
   simp at this
   exact h3 this
  have h95:bt s k=95→∀b,b=false→Za5.b12 R C (.int .i64 k) (.bool b) w:=fun h1 b hb=>step b (fun _=>⟨by rw[h1];rfl,fun h0=>by rw[h0]at h1;rw[h1];rfl⟩) (fun e=>by rw[hb]at e;cases e)
  have hlet:Zcd (bt s k)=true→Za5.b12 R C (.int .i64 k) (.bool false) w:=fun h1=>step false (fun _=>⟨by simp[Zbq,h1],fun h0=>by rw[h0]at h1;rw[h1];rfl⟩) (fun e=>by cases e)
  unfold Za5.b11
  simp[go_sem,Zdc,h]
  refine Za (fun h1=>?_) (fun h1=>?_)
  ·have h95':bt s k≠95:=by simp at h1;omega
   simp[go_sem]
      -- no letter
   have nolet:Zcd (bt s k)=false→(k=0→Za5.b12 R C (.int .i64 k) (.bool true) w)∧(¬k=0→bt s k<48→Za5.b12 R C (.int .i64 k) (.bool true) w)∧(¬k=0→48≤bt s k→Za5.b12 R C (.int .i64 k) (.bool (decide ((57:Int)<bt s k))) w):=fun hl=>by
    refine ⟨fun h0=>step _ (fun e=>by cases e) (fun _=>no0 h0 hl h95'),fun h0 h48=>step _ (fun e=>by cases e) (fun _=>noK ?_),fun h0 h48=>step _ (fun e=>⟨?_,fun e0=>absurd e0 h0⟩) (fun e=>noK ?_)⟩
    ·simp[Zbq,hl];omega
    ·simp at e;simp[Zbq];omega
    ·simp at e;simp[Zbq,hl];omega
   refine Za (fun h2=>?_) (fun h2=>?_)
   ·have hl:Zcd (bt s k)=false:=by rw[←hor];simp at h2 ⊢;omega
    obtain ⟨n1,n2,n3⟩:=nolet hl
    simp[go_sem]
    refine Za (fun h3=>?_) (fun h3=>?_)
    ·exact n1 (by simpa using h3)
    ·have hk0:¬k=0:=by simpa using h3
     simp[go_sem]
     refine Za (fun h4=>?_) (fun h4=>?_)
     ·exact n2 hk0 (by simp at h4;omega)
     ·simp[go_sem]
      exact n3 hk0 (by simp at h4;omega)
   ·simp[go_sem]
    refine Za (fun h3=>?_) (fun h3=>?_)
    ·have hl:Zcd (bt s k)=false:=by rw[←hor];simp at h2 h3 ⊢;omega
     obtain ⟨n1,n2,n3⟩:=nolet hl
     simp[go_sem]
     refine Za (fun h5=>?_) (fun h5=>?_)
     ·exact n1 (by simpa using h5)
     ·have hk0:¬k=0:=by simpa using h5
      simp[go_sem]
      refine Za (fun h4=>?_) (fun h4=>?_)
      ·exact n2 hk0 (by simp at h4;omega)
      ·simp[go_sem]
       exact n3 hk0 (by simp at h4;omega)
    ·exact hlet (by rw[←hor];simp at h2 h3 ⊢;omega)
  ·exact h95 (by simp at h1;omega) false rfl
 ·unfold Za5.b3
  have fin:∀b,b=nmB s→R (.returned (.bool b)) w:=fun b hb=>hR _ _ ⟨by rw[hb],Chg.refl _ _⟩
  simp[go_sem]
  refine Za (fun h1=>?_) (fun h1=>?_)
  ·have hpos:0<s.size:=by
    rcases Nat.eq_zero_or_pos s.size with h0|h0
    ·have:=Zsl (s:=s)
     rw[h0]at this
     simp at this h1
     exact absurd this h1
    ·exact h0
   simp[go_sem]
   refine fin _ ?_
   rw[Bool.eq_iff_iff,Zho]
   simp
   constructor
   ·intro h2
    exact ⟨hpos,by omega,hfst (by omega),fun i hi=>hall i (by omega)⟩
   ·intro h2;have:=h2.2.1;omega
  ·refine no fun h3=>?_
   have h4:=h3.1
   have h5:s.toList=[]:=by simpa using h1
   have h6:=Zm3 h5
   omega
end Go.Proofs.YtckbgeedlobfaaaGreatDoor
namespace Go.Proofs.YtckbgeedlobfaaaGreatDoor
open Go.Px Go.Px.Scan Go.RowKit
attribute [-go_sem] Builtin.append_
theorem Zrh {w:World}{B:Nat}{v:Value}{l:List ByteArray}(h:(Zo rStr).at1 w B v l)(hB:B≤w.heap.size):Ct Tryz.prog Zd6.id #[v] w fun r w'=>r = .bool (decide l.Nodup)∧Chg noB w w':=by
 refine Zd6.ct fun R hR=>?_
 obtain ⟨A,c,rfl,hl,hm,_⟩:=Zay h
 unfold Zd6.run
 simp -dsimp[go_sem,mkStr]
 have h0:=(St.refl noB w).map Tryz.prog kStr 9 3
 generalize hq:w.heap.size=q at h0 ⊢
 generalize w.alloc (.map #[] 0)=w1 at h0 ⊢
 refine Zd6.l6_intro _ _ _ _ _ _ _ (fun x w1=>∃(k n:Nat) (f:ByteArray→Int),x = .int .i64 k∧k≤l.length∧St noB w w1 [mapC Tryz.prog kStr 9 3 (.map (some q)) n f]∧n≤k∧(n=k↔(l.take k).Nodup)∧(∀s,f s≠0↔s∈l.take k)∧∀s,0≤f s∧f s≤k) (fun x _=>l.length-iv x) ⟨0,0,_,rfl,by omega,h0,by omega,by simp,by simp,by simp⟩ ?_
 rintro _ w1 ⟨k,n,f,rfl,hk,hst,hn,hnd,hmem,hf⟩ C hC
 simp -dsimp[go_sem]
 refine Za (fun h2=>?_) (fun h2=>?_)<;>simp at h2
 ·obtain ⟨b1,o1,rfl,hb1,hc1,hr1⟩:=Go.Px.strs_at (Rep.below h (hst.chg.below hB fun _ _=>id)) h2
  have wk:=Zau h2 (Nat.le_trans hl hm)
  have hg:(Instr.lookup 98 (.map (some q)) (.string l[k]) false).run Tryz.prog w1=_:=hst.mapGet mStr 0 rfl l[k] hr1
  have hfk:=hf l[k]
  have hkm:k<maxLen:=by omega
  have wf:IntKind.i64.wrap (f l[k]+1)=f l[k]+1:=IntWalk.i64_in _ (by unfold maxLen at hkm;omega)
  obtain ⟨w2,hrun,hst2⟩:=hst.mapSet mStr 0 rfl l[k] hr1 (by omega) (x:=f l[k]+1) (by unfold Zz;unfold maxLen at hkm;omega) (by omega)
  have hrun':(Instr.mapUpdate 98 (.map (some q)) (.string l[k]) (.int .i64 (f l[k]+1))).run Tryz.prog w1=_:=hrun
  simp -dsimp[go_sem,h2,hc1,hg,wf,hrun',wk]
  have htk:l.take (k+1)=l.take k++[l[k]]:=List.take_succ_eq_append_getElem h2
  refine hC _ _ ⟨k+1,_,_,by simp,by omega,hst2,?_,?_,?_,?_⟩ (by simp[iv];omega)
  ·split<;>omega
  ·rw[htk]
   by_cases h0:f l[k]=0
   ·have hno:l[k]∉l.take k:=fun hm=>(hmem l[k]).2 hm h0
    rw[if_pos h0]
    constructor
    ·intro e
     refine List.nodup_append.2 ⟨hnd.1 (by omega),by simp,fun a ha b hb e'=>?_⟩
     simp at hb
     subst hb;subst e';exact hno ha
    ·intro hd
     have:=hnd.2 (List.nodup_append.1 hd).1
     omega
   ·rw[if_neg h0]
    have hyes:=(hmem l[k]).1 h0
    constructor
    ·intro e;omega
    ·intro hd
     exact absurd rfl ((List.nodup_append.1 hd).2.2 _ hyes _ (by simp))
  ·intro s
   rw[htk]
   by_cases hs:s=l[k]
   ·subst hs
    simp only[if_true,List.mem_append,List.mem_singleton,or_true,iff_true]
    have:=hf l[k];omega
   ·simp only[if_neg hs,List.mem_append,List.mem_singleton,hs,or_false];exact hmem s
  ·intro s
   have:=hf s
   by_cases hs:s=l[k]
   ·simp only[if_pos hs];omega
   ·simp only[if_neg hs];omega
 ·have hka:k=l.length:=by omega
  subst hka
  rw[List.take_length]at hnd
  obtain ⟨F,ho,_⟩:=hst.get (k:=0) rfl
  have hlen:=ho.1.len mStr 3
  simp -dsimp[go_sem,hlen]
  refine hR _ _ ⟨?_,hst.chg⟩
  congr 1
  refine decide_eq_decide.2 ?_
  rw[←hnd];omega
end Go.Proofs.YtckbgeedlobfaaaGreatDoor
namespace Go.Proofs.YtckbgeedlobfaaaGreatDoor
open Go.Px Go.Px.Scan Go.RowKit
attribute [-go_sem] Builtin.append_
attribute [local go_sem] Ze.b1 Ze.b3 Ze.b4 Ze.b7 Zl.b1
theorem Zqb {w:World}{B:Nat}{v:Value}{l:List ByteArray}(h:(Zo rStr).at1 w B v l)(hB:B≤w.heap.size){g:FuncId}{first cap:Array Value}{p:ByteArray→Bool}
  (hp:∀x∈l,x.size≤maxLen→∀w,Ct Tryz.prog g (first.toList++[Value.string x]++cap.toList).toArray w fun v w'=>v = .bool (p x)∧Chg noB w w') :
  Ct Tryz.prog Ze.id #[v,.func (.func g) first cap] w fun r w'=>(∃i,r = .int .i64 i∧(0≤i↔l.any p=true)∧i≤l.length)∧Chg noB w w':=by
 refine Ze.ct fun R hR=>?_
 obtain ⟨A,c,rfl,hl,hm,_⟩:=Zay h
 unfold Ze.run
 simp -dsimp[go_sem]
 refine Ze.l6_intro _ _ _ _ _ _ (fun x w1=>∃k:Nat,x = .int .i64 k∧k≤l.length∧(l.take k).any p=false∧Chg noB w w1) (fun x _=>l.length-iv x) ⟨0,rfl,by omega,by simp,Chg.refl _ _⟩ ?_
 rintro _ w1 ⟨k,rfl,hk,hall,hcw⟩ C hC
 simp -dsimp[go_sem]
 refine Za (fun h2=>?_) (fun h2=>?_)<;>simp at h2
 ·obtain ⟨b1,o1,rfl,hb1,hc1,hr1⟩:=Go.Px.strs_at (Rep.below h (hcw.below hB fun _ _=>id)) h2
  have wk:=Zau h2 (Nat.le_trans hl hm)
  simp -dsimp[go_sem,h2,hc1]
  refine Zi4 (hp l[k] (List.getElem_mem h2) hr1 _) ?_
  rintro _ w2 ⟨rfl,hc2⟩
  refine Za (fun h3=>?_) (fun h3=>?_)
  ·refine hR _ _ ⟨⟨k,rfl,?_,by omega⟩,hcw.trans hc2⟩
   refine ⟨fun _=>List.any_eq_true.2 ⟨_,List.getElem_mem h2,h3⟩,fun _=>by omega⟩
  ·simp -dsimp[go_sem,wk]
   refine hC _ _ ⟨k+1,by simp,by omega,?_,hcw.trans hc2⟩ (by simp[iv];omega)
   rw[List.take_succ_eq_append_getElem h2,List.any_append,hall]
   simp[h3]
 ·have hka:k=l.length:=by omega
  rw[hka,List.take_length]at hall
  simp -dsimp[go_sem]
  exact hR _ _ ⟨⟨-1,rfl,by rw[hall];simp,by omega⟩,hcw⟩
theorem Zl2 {w:World}{B:Nat}{v:Value}{l:List ByteArray}(h:(Zo rStr).at1 w B v l)(hB:B≤w.heap.size){g:FuncId}{first cap:Array Value}{p:ByteArray→Bool}
  (hp:∀x∈l,x.size≤maxLen→∀w,Ct Tryz.prog g (first.toList++[Value.string x]++cap.toList).toArray w fun v w'=>v = .bool (p x)∧Chg noB w w') :
  Ct Tryz.prog Zl.id #[v,.func (.func g) first cap] w fun r w'=>r = .bool (l.any p)∧Chg noB w w':=by
 refine Zl.ct fun R hR=>?_
 unfold Zl.run
 simp -dsimp[go_sem]
 refine Zf (Zqb h hB hp) ?_
 rintro _ w1 ⟨⟨i,rfl,hi,_⟩,hc⟩
 simp -dsimp[go_sem]
 refine hR _ _ ⟨?_,hc⟩
 congr 1
 cases ha:l.any p
 ·rw[ha]at hi;simpa using hi
 ·rw[ha]at hi;simpa using hi
theorem ZZ137 {w:World}{B:Nat}{v:Value}{l:List Int}(h:(Zo rInt).at1 w B v l){x:Int} :
  Ct Tryz.prog Zbw.id #[v,.int .i64 x] w fun r w'=>(∃i,r = .int .i64 i∧(0≤i↔x∈l))∧w=w':=by
 refine Zbw.ct fun R hR=>?_
 obtain ⟨A,c,rfl,hl,hm,_⟩:=Zay h
 unfold Zbw.run
 simp -dsimp[go_sem]
 refine Zbw.l6_intro _ _ _ _ _ _ (fun y w1=>∃k:Nat,y = .int .i64 k∧k≤l.length∧x∉l.take k∧w=w1) (fun y _=>l.length-iv y) ⟨0,rfl,by omega,by simp,rfl⟩ ?_
 rintro _ _ ⟨k,rfl,hk,hall,rfl⟩ C hC
 simp -dsimp[go_sem]
 refine Za (fun h2=>?_) (fun h2=>?_)<;>simp at h2
 ·obtain ⟨b1,o1,rfl,hb1,hc1,hr1⟩:=Go.Px.ints_at h h2
  have wk:=Zau h2 (Nat.le_trans hl hm)
  simp -dsimp[go_sem,h2,hc1]
  refine Za (fun h3=>?_) (fun h3=>?_)<;>simp at h3
  ·refine hR _ _ ⟨⟨k,rfl,?_⟩,rfl⟩
   exact ⟨fun _=>by rw[h3];exact List.getElem_mem h2,fun _=>by omega⟩
  ·simp -dsimp[go_sem,wk]
   have hno:x∉l.take (k+1):=by
    rw[List.take_succ_eq_append_getElem h2,List.mem_append]
    simp[hall,h3]
   exact hC _ _ ⟨k+1,by simp,by omega,hno,rfl⟩ (by simp[iv];omega)
 ·have hka:k=l.length:=by omega
  rw[hka,List.take_length]at hall
  simp -dsimp[go_sem]
  exact hR _ _ ⟨⟨-1,rfl,by simp[hall]⟩,rfl⟩
theorem Ztv {w:World}{B:Nat}{v:Value}{l:List Int}(h:(Zo rInt).at1 w B v l){x:Int} :
  Ct Tryz.prog Zbu.id #[v,.int .i64 x] w fun r w'=>r = .bool (decide (x∈l))∧w=w':=by
 refine Zbu.ct fun R hR=>?_
 unfold Zbu.run
 simp -dsimp[go_sem]
 refine Zf (ZZ137 h) ?_
 rintro _ _ ⟨⟨i,rfl,hi⟩,rfl⟩
 simp -dsimp[go_sem]
 refine hR _ _ ⟨?_,rfl⟩
 congr 1
 exact decide_eq_decide.2 hi
theorem ZZ221 (x y:Int)(w:World):Ct Tryz.prog Zeo.id #[.int .i64 x,.int .i64 y] w fun r w'=>r = .bool (decide (x<y))∧w=w':=by
 have nan:∀(x:Int) (w:World),Ct Tryz.prog Zdx.id #[.int .i64 x] w fun r w'=>r = .bool false∧w=w':=by
  intro x w
  refine Zdx.ct fun R hR=>?_
  unfold Zdx.run
  simp -dsimp[go_sem]
  exact hR _ _ ⟨by simp,rfl⟩
 refine Zeo.ct fun R hR=>?_
 unfold Zeo.run
 simp -dsimp[go_sem]
 refine Zf (nan x w) ?_
 rintro _ _ ⟨rfl,rfl⟩
 simp -dsimp[go_sem]
 exact hR _ _ ⟨rfl,rfl⟩
theorem Zt5 {w:World}{B:Nat}{v:Value}{l:List Int}(h:(Zo rInt).at1 w B v l)(hB:B≤w.heap.size) :
  Ct Tryz.prog Za8.id #[v] w fun r w'=>r = .bool (decide (l.Pairwise (·≤·)))∧Chg noB w w':=by
 refine Za8.ct fun R hR=>?_
 obtain ⟨A,c,rfl,hl,hm,_⟩:=Zay h
 have key:l.Pairwise (·≤·)↔∀i (hi:i+1<l.length),l[i]≤l[i+1]:=by
  constructor
  ·intro hp i hi
   exact List.pairwise_iff_getElem.1 hp i (i+1) (by omega) hi (by omega)
  ·intro hp
   refine List.pairwise_iff_getElem.2 fun i j hi hj hij=>?_
   have:∀d (hd:i+d<l.length),l[i]≤l[i+d]:=by
    intro d
    induction d with
    | zero=>intro _;exact Int.le_refl _
    | succ d ih=>intro hd;exact Int.le_trans (ih (by omega)) (hp (i+d) hd)
   have h9:=this (j-i) (by omega)
   simpa[show i+(j-i)=j by omega]using h9
 unfold Za8.run
 have wl:IntKind.i64.wrap ((l.length:Int)-1)=(l.length:Int)-1:=IntWalk.i64_in _ (by unfold maxLen at hm;omega)
 simp -dsimp[go_sem,wl]
 refine Za8.l6_intro _ _ _ _ (fun y w1=>∃k:Int,y = .int .i64 k∧k<l.length∧(∀i (hi:i+1<l.length),k<(i:Int)+1→l[i]≤l[i+1])∧Chg noB w w1) (fun y _=>iv y) ⟨_,rfl,by omega,fun i hi h9=>by omega,Chg.refl _ _⟩ ?_
 rintro _ w1 ⟨k,rfl,hk,hall,hcw⟩ C hC
 simp -dsimp[go_sem]
 refine Za (fun h2=>?_) (fun h2=>?_)<;>simp at h2
 ·obtain ⟨n,rfl⟩:∃n:Nat,k=(n:Int)+1:=⟨(k-1).toNat,by omega⟩
  have hn1:n+1<l.length:=by omega
  obtain ⟨b1,o1,rfl,hb1,hc1,hr1⟩:=Go.Px.ints_at (Rep.below h (hcw.below hB fun _ _=>id)) hn1
  obtain ⟨b2,o2,e2,hb2,hc2,hr2⟩:=Go.Px.ints_at (Rep.below h (hcw.below hB fun _ _=>id)) (show n<l.length by omega)
  injection e2 with e2;injection e2 with e2 e3;subst e2 e3
  have wk:IntKind.i64.wrap ((n:Int)+1-1)=(n:Int):=by rw[show (n:Int)+1-1=n by omega];exact IntWalk.i64_in _ (by unfold maxLen at hm;omega)
  have hn0:n<l.length:=by omega
  have q1:(0:Int)≤(n:Int)+1:=by omega
  have q2:(n:Int)+1<l.length:=by omega
  have wk':IntKind.i64.wrap (n:Int)=(n:Int):=IntWalk.i64_in _ (by unfold maxLen at hm;omega)
  simp -dsimp[go_sem,q1,q2,hn0,hc1,hc2,wk']
  refine Zf (ZZ221 _ _ _) ?_
  rintro _ _ ⟨rfl,rfl⟩
  refine Za (fun h3=>?_) (fun h3=>?_)<;>simp at h3
  ·refine hR _ _ ⟨?_,hcw.drew⟩
   congr 1
   refine (decide_eq_false fun hp=>?_).symm
   have:=key.1 hp n hn1
   omega
  ·simp -dsimp[go_sem,wk']
   refine hC _ _ ⟨n,rfl,by omega,fun i hi h9=>?_,hcw.drew⟩ (by simp[iv])
   by_cases e:i=n
   ·subst e;exact h3
   ·exact hall i hi (by omega)
 ·simp -dsimp[go_sem]
  refine hR _ _ ⟨?_,hcw⟩
  congr 1
  exact (decide_eq_true (key.2 fun i hi=>hall i hi (by omega))).symm
end Go.Proofs.YtckbgeedlobfaaaGreatDoor
namespace Go.Proofs.YtckbgeedlobfaaaGreatDoor
open Go.Px Go.Px.Scan Go.RowKit
attribute [-go_sem] Builtin.append_
theorem Zo8 {w:World}{B:Nat}{v:Value}{g:Gr}(h:Zcz.atN w B v g)(hB:B≤w.heap.size){a:Nat}(ha:a≤1):Ct Tryz.prog Zcw.id #[v,.int .i64 a] w fun r w'=>r = .bool (symB g a)∧Chg noB w w':=by
 refine Zcw.ct fun R hR=>?_
 obtain ⟨A1,c1,A2,c2,A3,c3,A4,c4,rfl,h1,h2,h3,h4,h5,⟨l1,m1⟩,⟨l2,m2⟩,⟨l3,m3⟩,⟨l4,m4⟩⟩:=(Zbl h).ex
 have no:∀w',Chg noB w w'→¬Zll g a→R (.returned (.bool false)) w':=fun w' hc hn=>hR _ _ ⟨by rw[Zfp Zi2 hn],hc⟩
 unfold Zcw.run Zcw.b1
 simp -dsimp[go_sem]
 have h0:=(St.refl noB w).alloc #[.slice A1 g.terms.length c1,.slice A2 g.nons.length c2,.slice A3 g.levels.length c3,.int .i64 g.start,.slice A4 g.prods.length c4] 27
 generalize w.heap.size=q at h0 ⊢
 generalize w.alloc (.cells #[.slice A1 g.terms.length c1,.slice A2 g.nons.length c2,.slice A3 g.levels.length c3,.int .i64 g.start,.slice A4 g.prods.length c4] 27)=w1 at h0 ⊢
 have k0:=h0.box 0 rfl
 simp[Zp]at k0
 have b29f:∀w',Chg noB w w'→¬Zll g a→Zcw.b29 R (.int .i64 a) (.pointer (some ⟨q,0,none⟩)) (.bool true) w':=fun w' hc hn=>by
  simp -dsimp[go_sem]
  exact no _ hc hn
 refine Za (fun q1=>?_) (fun q1=>?_)<;>simp at q1
 ·exact b29f _ h0.chg fun hs=>by have:=hs.t0;rw[q1]at this;cases this
 have q1':0<g.terms.length:=List.length_pos_iff.2 q1
 obtain ⟨b1,o1,rfl,hb1,hc1,hc1',_,_⟩:=Zdw (Rep.below h1 (h0.chg.below hB fun _ _=>id)) q1'
 simp at hc1 hc1'
 simp -dsimp[go_sem,k0,q1',hc1,hc1']
 have t0:¬(g.terms[0].1.toList=[]∧g.terms[0].2=0)→¬Zll g a:=fun hn hs=>by
  have h9:=hs.t0
  rw[List.head?_eq_getElem?,List.getElem?_eq_getElem q1']at h9
  injection h9 with h9
  rw[h9]at hn
  exact hn ⟨by rw[ByteArray.toList_eq],rfl⟩
 by_cases p1:g.terms[0].1.toList=[]
 case neg=>
  simp -dsimp[go_sem,p1]
  exact no _ h0.chg (t0 fun h=>p1 h.1)
 by_cases p2:g.terms[0].2=0
 case neg=>
  simp -dsimp[go_sem,p1,p2]
  exact no _ h0.chg (t0 fun h=>p2 h.2)
 have ht0:g.terms.head?=some (⟨#[]⟩,0):=by
  rw[List.head?_eq_getElem?,List.getElem?_eq_getElem q1']
  congr 1
  refine Prod.ext ?_ p2
  exact Zh6 (by rw[←ByteArray.toList_eq];exact p1)
 clear t0
 simp -dsimp[go_sem,p1,p2,k0]
 refine Za (fun q2=>?_) (fun q2=>?_)<;>simp at q2
 ·exact b29f _ h0.chg fun hs=>by have:=hs.n0;omega
 simp -dsimp[go_sem,k0]
 refine Za (fun q3=>?_) (fun q3=>?_)<;>simp at q3
 ·exact b29f _ h0.chg fun hs=>by have:=hs.t1;omega
 have w64:IntKind.i64.wrap (64+(a:Int))=64+a:=IntWalk.i64_in _ (by omega)
 simp -dsimp[go_sem,k0,w64]
 refine Za (fun q4=>?_) (fun q4=>?_)<;>simp at q4
 ·exact b29f _ h0.chg fun hs=>by have:=hs.n1;omega
 have w65:IntKind.i64.wrap ((g.terms.length:Int)-1)=(g.terms.length:Int)-1:=IntWalk.i64_in _ (by omega)
 have w66:IntKind.i64.wrap ((g.terms.length:Int)-1+g.nons.length)=(g.terms.length:Int)-1+g.nons.length:=IntWalk.i64_in _ (by omega)
 have w67:IntKind.i64.wrap ((g.terms.length:Int)-1+g.nons.length-a)=(g.terms.length:Int)-1+g.nons.length-a:=IntWalk.i64_in _ (by omega)
 simp -dsimp[go_sem,k0,w65,w66,w67]
 refine Za (fun q5=>?_) (fun q5=>?_)<;>simp at q5
 ·exact no _ h0.chg fun hs=>by have:=hs.sum;omega
 have h1':=h0.map Tryz.prog kInt 3 3
 have k1:=h1'.box 0 rfl
 simp[Zp]at k1
 have l1':(1:Nat)≤g.terms.length:=q1'
 have l1'':(1:Int)≤g.terms.length:=by omega
 simp -dsimp[go_sem,mkInt,k1,l1'']
 have hT:=slice_from (k:=1) (o':=o1+2) h1 l1' rfl
 generalize (if c1=1 then some (⟨b1,o1,none⟩:Addr) else some ⟨b1,o1+2,none⟩)=AT at hT ⊢
 generalize w1.heap.size=m at h1' ⊢
 generalize w1.alloc (.map #[] 0)=w2 at h1' k1 ⊢
 have htl:g.terms.drop 1=g.terms.tail:=by simp
 rw[htl]at hT
 have hlen:g.terms.length-1=g.terms.tail.length:=by simp
 rw[hlen]at hT ⊢
 generalize hE:g.terms.tail=tl at hT ⊢
 have e1:∀t,t∈g.terms.tail↔t∈tl:=fun t=>by rw[hE]
 have n0:=h1'.nilRow 9 1
 refine Zcw.l18_intro _ _ _ _ _ _ _ _ _ (fun x y w'=>∃(k:Nat) (n:Nat) (f:Int→Int) (A:Option Addr) (c:Nat),y = .int .i64 k∧x = .slice A k c∧k≤tl.length ∧
  St noB w w' [boxC q 27 [.slice (some ⟨b1,o1,none⟩) g.terms.length c1,.slice A2 g.nons.length c2,.slice A3 g.levels.length c3,.int .i64 g.start,.slice A4 g.prods.length c4],mapC Tryz.prog kInt 3 3 (.map (some m)) n f,rowC 9 1 A k c ((tl.take k).map fun t=> .string t.1)] ∧
  n≤k∧(∀x,f x≠0↔∃t∈tl.take k,t.2=x)∧(∀t∈tl.take k,Zr3 g t)) (fun _ y _=>tl.length-iv y) ⟨0,0,_,none,0,rfl,rfl,by omega,by simpa using n0,by omega,by simp,by simp⟩ ?_
 rintro _ _ w3 ⟨k,n,f,A,c,rfl,rfl,hk,hst,hn,hf,hall⟩ C hC
 have k3:=hst.box 0 rfl
 simp[Zp]at k3
 simp -dsimp[go_sem]
 refine Za (fun q6=>?_) (fun q6=>?_)
 ·have q6':k<tl.length:=by simpa using q6
  obtain ⟨b2,o2,rfl,hb2,d1,d2,d3,d4⟩:=Zdw (Rep.below hT (hst.chg.below hB fun _ _=>id)) q6'
  have hst4:=hst.alloc #[.string tl[k].1,.int .i64 tl[k].2] 64
  have hw4:(w3.alloc (.cells #[.string tl[k].1,.int .i64 tl[k].2] 64)).heap.size=w3.heap.size+1:=by simp
  have k4:=hst4.box 0 rfl
  have kt:=hst4.box 3 rfl
  simp[Zp]at k4 kt
  simp -dsimp[go_sem,q6',d1,d2]
  generalize w3.alloc (.cells #[.string tl[k].1,.int .i64 tl[k].2] 64)=w4 at hst4 k4 kt hw4 ⊢
  generalize w3.heap.size=tb at hst4 kt ⊢
  refine Zf (Zm0 d3 w4) ?_
  rintro _ w5 ⟨rfl,hc5⟩
  have hst5:=hst4.old hc5
  clear k4 kt
  have k4:=hst5.box 0 rfl
  have kt:=hst5.box 3 rfl
  simp[Zp]at k4 kt
  have hmem:tl[k]∈tl:=List.getElem_mem q6'
  cases htm:tmB tl[k].1 with
  | false=>
   simp -dsimp[go_sem]
   refine no _ hst5.chg fun hs=>?_
   have:=Zhu.2 (hs.terms _ ((e1 _).2 hmem)).name
   rw[this]at htm;cases htm
  | true=>
   simp -dsimp[go_sem,kt]
   refine Za (fun q7=>?_) (fun q7=>?_)<;>simp at q7
   ·simp -dsimp[go_sem]
    exact no _ hst5.chg fun hs=>by have:=(hs.terms _ ((e1 _).2 hmem)).lo;omega
   simp -dsimp[go_sem,kt,k4]
   refine Za (fun q8=>?_) (fun q8=>?_)<;>simp at q8
   ·exact no _ hst5.chg fun hs=>by have:=(hs.terms _ ((e1 _).2 hmem)).hi;omega
   have hk65:k<65:=by
    have:tl.length=g.terms.length-1:=by rw[←hE];simp
    omega
   simp -dsimp[go_sem,kt]
   refine hst5.append1 2 rfl uStrs iStr rfl (by omega) (news:=[.string tl[k].1]) rfl (by simp[Value.oneCell']) (by unfold maxLen;omega) (by unfold Zr;omega) ?_
   intro g' cap w6 hst6
   have k6:=hst6.box 3 rfl
   simp[Zp]at k6
   obtain ⟨w7,hrun,hst7⟩:=hst6.mapSet mInt 1 rfl tl[k].2 d4 (by unfold maxLen;omega) (x:=1) (by unfold Zz;omega) (by omega)
   have hrun':(Instr.mapUpdate 116 (.map (some m)) (.int .i64 tl[k].2) (.int .i64 1)).run Tryz.prog w6=_:=hrun
   have wk:IntKind.i64.wrap ((k:Int)+1)=(k:Int)+1:=IntWalk.i64_in _ (by omega)
   simp -dsimp[go_sem,k6,hrun',wk]
   have htk:tl.take (k+1)=tl.take k++[tl[k]]:=List.take_succ_eq_append_getElem q6'
   have em:(tl.take k).map (fun t=>Value.string t.1)++[.string tl[k].1]=(tl.take (k+1)).map (fun t=>Value.string t.1):=by rw[htk,List.map_append];rfl
   have h8:=hst7.take 3
   rw[em]at h8
   refine hC _ _ _ ⟨k+1,_,_,_,_,by simp,rfl,by omega,h8,?_,?_,?_⟩ (by simp[iv];omega)
   ·split<;>omega
   ·intro x
    rw[htk]
    by_cases hx:x=tl[k].2
    ·rw[if_pos hx]
     exact ⟨fun _=>⟨tl[k],List.mem_append_right _ (List.mem_singleton.2 rfl),hx.symm⟩,fun _=>by omega⟩
    ·rw[if_neg hx,hf x]
     constructor
     ·rintro ⟨t,ht,e⟩;exact ⟨t,List.mem_append_left _ ht,e⟩
     ·rintro ⟨t,ht,e⟩
      rcases List.mem_append.1 ht with ht|ht
      ·exact ⟨t,ht,e⟩
      ·rw[List.mem_singleton.1 ht]at e;exact absurd e.symm hx
   ·intro t ht
    rw[htk]at ht
    rcases List.mem_append.1 ht with ht|ht
    ·exact hall t ht
    ·rw[List.mem_singleton.1 ht]
     exact ⟨Zhu.1 htm,by omega,by omega⟩
 ·have hka:k=tl.length:=by
   have:¬k<tl.length:=by simpa using q6
   omega
  subst hka
  rw[List.take_length]at hst hf hall
  clear hC C
  simp -dsimp[go_sem,k3]
  have nl:¬(∀i (h:i<g.levels.length),1≤g.levels[i]∧g.levels[i]≤3∧∃t∈tl,t.2=(i:Int)+1)→¬Zll g a:=fun hn hs=>hn (by rw[←hE];exact hs.levels)
  refine Zcw.l9_intro _ _ _ _ _ _ _ _ _ (fun y w'=>∃j:Nat,y = .int .i64 j∧j≤g.levels.length∧w3=w'∧∀i (h:i<g.levels.length),i<j→1≤g.levels[i]∧g.levels[i]≤3∧∃t∈tl,t.2=(i:Int)+1) (fun y _=>g.levels.length-iv y) ⟨0,rfl,by omega,rfl,fun i h h0=>by omega⟩ ?_
  rintro _ _ ⟨j,rfl,hj,rfl,hjl⟩ C hC
  simp -dsimp[go_sem]
  refine Za (fun q7=>?_) (fun q7=>?_)<;>simp at q7
  ·obtain ⟨b3,o3,rfl,hb3,d1,d2⟩:=Go.Px.ints_at (Rep.below h3 (hst.chg.below hB fun _ _=>id)) q7
   have wj:=Zau q7 (Nat.le_trans l3 m3)
   simp -dsimp[go_sem,q7,d1]
   refine Za (fun q8=>?_) (fun q8=>?_)<;>simp at q8
   ·simp -dsimp[go_sem]
    exact no _ hst.chg (nl fun hn=>by have:=(hn j q7).1;omega)
   simp -dsimp[go_sem]
   refine Za (fun q9=>?_) (fun q9=>?_)<;>simp at q9
   ·simp -dsimp[go_sem]
    exact no _ hst.chg (nl fun hn=>by have:=(hn j q7).2.1;omega)
   have hg:(Instr.lookup 116 (.map (some m)) (.int .i64 ((j:Int)+1)) false).run Tryz.prog w3=_:=hst.mapGet mInt 1 rfl ((j:Int)+1) (by show Zz _;unfold Zz;unfold maxLen at m3;omega)
   simp -dsimp[go_sem,wj,hg]
   refine Za (fun q10=>?_) (fun q10=>?_)<;>simp at q10
   ·exact no _ hst.chg (nl fun hn=>absurd q10 ((hf _).2 (hn j q7).2.2))
   ·simp -dsimp[go_sem,wj]
    refine hC _ _ ⟨j+1,by simp,by omega,rfl,fun i hi hij=>?_⟩ (by simp[iv];omega)
    by_cases e:i=j
    ·subst e;exact ⟨by omega,by omega,(hf _).1 q10⟩
    ·exact hjl i hi (by omega)
  ·have hja:j=g.levels.length:=by omega
   subst hja
   have hlev:∀i (h:i<g.levels.length),1≤g.levels[i]∧g.levels[i]≤3∧∃t∈tl,t.2=(i:Int)+1:=fun i h=>hjl i h h
   obtain ⟨b4,o4,rfl,hb4,_⟩:=Go.Px.strs_at h2 q2
   have q2':a≤g.nons.length:=by omega
   have hN:=slice_from (k:=a) (o':=o4+a) h2 q2' (by simp[rStr])
   have hN2:(Zo rStr).at1 w3 B _ _:=Rep.below hN (hst.chg.below hB fun _ _=>id)
   simp -dsimp[go_sem,k3,q2']
   generalize (if c2=a then some (⟨b4,o4,none⟩:Addr) else some ⟨b4,o4+a,none⟩)=AN at hN hN2 ⊢
   have hml:(g.nons.drop a).length=g.nons.length-a:=List.length_drop
   have hten:((tl.map (·.1)).map Value.string)=tl.map (fun t=>Value.string t.1):=by simp
   obtain ⟨FT,hoT,hFT⟩:=hst.get (k:=2) rfl
   have hTx:(Zo rStr).at1 w3 w3.heap.size (.slice A tl.length c) (tl.map (·.1)):=by
    have:=Zdh (r:=rStr) (enc:=fun s=>[Value.string s]) (l:=tl.map (·.1)) (B:=w3.heap.size) (w:=w3) (base:=0) (e:=9) (v := .slice A tl.length c) (by
     have h9:=hoT.1
     rw[List.length_map,show (tl.map (·.1)).flatMap (fun s=>[Value.string s])=tl.map (fun t=>Value.string t.1) by
      rw[List.flatMap_map,Zfu]]
     exact h9) (fun _ _=>rfl) (fun x hx=>⟨rfl,by
      obtain ⟨t,ht,rfl⟩:=List.mem_map.1 hx
      have:=(hall t ht).name.2.1
      unfold maxLen;omega⟩) (Nat.le_refl _)
    exact this
   refine Zf (Zrh hTx (Nat.le_refl _)) ?_
   rintro _ w4 ⟨rfl,hc4⟩
   by_cases hd1:(tl.map (·.1)).Nodup
   case neg=>
    simp -dsimp[go_sem,hd1]
    exact no _ (hst.chg.trans hc4) fun hs=>hd1 (by rw[←hE];exact hs.tnd)
   have hN4:=Rep.below hN2 (hc4.below (B:=B) (by have:=hst.chg.size;omega) fun _ _=>id)
   have hB4:B≤w4.heap.size:=by have:=hst.chg.size;have:=hc4.size;omega
   simp -dsimp[go_sem,hd1]
   refine Zf (Zrh hN4 hB4) ?_
   rintro _ w5 ⟨rfl,hc5⟩
   by_cases hd2:(g.nons.drop a).Nodup
   case neg=>
    simp -dsimp[go_sem,hd2]
    exact no _ ((hst.chg.trans hc4).trans hc5) fun hs=>hd2 hs.nnd
   have hN5:=Rep.below hN4 (hc5.below hB4 fun _ _=>id)
   have hB5:B≤w5.heap.size:=by have:=hc5.size;omega
   simp -dsimp[go_sem,hd2]
   refine Zf (Zl2 (p:=fun s=> !nmB s) hN5 hB5 fun x hx hsz w=>?_) ?_
   ·refine Zee.ct fun R hR=>?_
    unfold Zee.run
    simp -dsimp[go_sem]
    refine Zf (Znt hsz w) ?_
    rintro _ w' ⟨rfl,hc⟩
    simp -dsimp[go_sem]
    exact hR _ _ ⟨rfl,hc⟩
   ·rintro _ w6 ⟨rfl,hc6⟩
    simp -dsimp[go_sem]
    refine hR _ _ ⟨?_,((hst.chg.trans hc4).trans hc5).trans hc6⟩
    congr 1
    refine Zn2 ?_
    rw[Zi2]
    constructor
    ·intro hb
     refine ⟨ht0,q2,by omega,by omega,by omega,by rw[hE];exact hall,by rw[hE];exact hlev,by rw[hE];exact hd1,hd2,fun s hs=>?_⟩
     refine Zho.1 ?_
     cases e:nmB s with
     | true=>rfl
     | false=>
      have:(g.nons.drop a).any (fun s=> !nmB s)=true:=List.any_eq_true.2 ⟨s,hs,by simp[e]⟩
      rw[this]at hb;cases hb
    ·intro hs
     cases e:(g.nons.drop a).any (fun s=> !nmB s) with
     | false=>rfl
     | true=>
      obtain ⟨s,h1,h2⟩:=List.any_eq_true.1 e
      have:=Zho.2 (hs.nnam s h1)
      rw[this]at h2;cases h2
end Go.Proofs.YtckbgeedlobfaaaGreatDoor
namespace Go.Proofs.YtckbgeedlobfaaaGreatDoor
open Go.Px Go.Px.Scan Go.RowKit
attribute [-go_sem] Builtin.append_
theorem Zl8 {G:Nat→Prop}{W w:World}{L:List Ch}(h:St G W w L)(k:Nat){a:Option Addr}{n c:Nat}{l:List Int}(hk:L[k]?=some (rowC 3 1 a n c (l.map (Value.int .i64 ·))))(hl:∀x∈l,Zz x):(Zo rInt).at1 w w.heap.size (.slice a n c) l:=by
 obtain ⟨F,ho,_⟩:=h.get hk
 have hn:n=l.length:=by have:=(Zhw ho).1;simpa using this.symm
 subst hn
 exact Zdh (r:=rInt) (enc:=fun x=>[Value.int .i64 x]) (base:=0) (e:=3) (by rw[Zfu];exact ho.1) (fun _ _=>rfl) (fun x hx=>⟨rfl,hl x hx⟩) (Nat.le_refl _)
theorem Zjh {w:World}{B:Nat}{v:Value}{g:Gr}(h:Zcz.atN w B v g)(hB:B≤w.heap.size){a:Nat}(ha:a≤1)(hsy:Zll g a):Ct Tryz.prog Zbp.id #[v,.int .i64 a] w fun r w'=>(∃vl,r = .tuple #[vl,.bool (Zzo g a)]∧(Zzo g a=true→(Zo rInt).at1 w' w'.heap.size vl (Zj (g.prods.drop a))))∧Chg noB w w':=by
 refine Zbp.ct fun R hR=>?_
 obtain ⟨A1,c1,A2,c2,A3,c3,A4,c4,rfl,h1,h2,h3,h4,h5,⟨l1,m1⟩,⟨l2,m2⟩,⟨l3,m3⟩,⟨l4,m4⟩⟩:=(Zbl h).ex
 have t1:=hsy.t1
 have n0:=hsy.n0
 have n1:=hsy.n1
 have no:∀w',Chg noB w w'→¬Zhz g a→R (.returned (.tuple #[.slice none 0 0,.bool false])) w':=fun w' hc hn=>hR _ _ ⟨⟨_,by rw[Zfp Zf6 hn],fun h=>by rw[Zfp Zf6 hn]at h;cases h⟩,hc⟩
 unfold Zbp.run Zbp.b1
 simp -dsimp[go_sem]
 have h0:=(St.refl noB w).alloc #[.slice A1 g.terms.length c1,.slice A2 g.nons.length c2,.slice A3 g.levels.length c3,.int .i64 g.start,.slice A4 g.prods.length c4] 27
 generalize w.heap.size=q at h0 ⊢
 generalize w.alloc (.cells #[.slice A1 g.terms.length c1,.slice A2 g.nons.length c2,.slice A3 g.levels.length c3,.int .i64 g.start,.slice A4 g.prods.length c4] 27)=w1 at h0 ⊢
 have k0:=h0.box 0 rfl
 simp[Zp]at k0
 refine Za (fun q1=>?_) (fun q1=>?_)<;>simp at q1
 ·simp -dsimp[go_sem]
  exact no _ h0.chg fun hs=>by have:=hs.c0;omega
 have w96:IntKind.i64.wrap (96+(a:Int))=96+a:=IntWalk.i64_in _ (by omega)
 simp -dsimp[go_sem,k0,w96]
 refine Za (fun q2=>?_) (fun q2=>?_)<;>simp at q2
 ·exact no _ h0.chg fun hs=>by have:=hs.c1;omega
 obtain ⟨b4,o4,vr,rfl,hb4,_⟩:=Zev h5 q1
 have q1':a≤g.prods.length:=by omega
 have ws:IntKind.i64.wrap ((g.terms.length:Int)+g.nons.length)=(g.terms.length:Int)+g.nons.length:=IntWalk.i64_in _ (by omega)
 have wl:IntKind.i64.wrap ((g.terms.length:Int)+a)=(g.terms.length:Int)+a:=IntWalk.i64_in _ (by omega)
 simp -dsimp[go_sem,k0,ws,wl,q1']
 have hP:=slice_from (k:=a) (o':=o4+a*3) h5 q1' (by simp[rPr,Rep.prod,rInt,Zo])
 generalize (if c4=a then some (⟨b4,o4,none⟩:Addr) else some ⟨b4,o4+a*3,none⟩)=AP at hP ⊢
 generalize hE:g.prods.drop a=pl at hP ⊢
 have hpl:g.prods.length-a=pl.length:=by rw[←hE];simp
 rw[hpl]at hP ⊢
 have hpm:pl.length≤97:=by omega
 have n0':=h0.nilRow 3 1
 refine Zbp.l8_intro _ _ _ _ _ _ _ _ _ _ (fun x y w'=>∃(k:Nat) (A:Option Addr) (n c:Nat),y = .int .i64 k∧x = .slice A n c∧k≤pl.length∧n=(Zj (pl.take k)).length ∧
  St noB w w' [boxC q 27 [.slice A1 g.terms.length c1,.slice A2 g.nons.length c2,.slice A3 g.levels.length c3,.int .i64 g.start,.slice (some ⟨b4,o4,none⟩) g.prods.length c4],rowC 3 1 A n c ((Zj (pl.take k)).map (Value.int .i64 ·))] ∧
  n≤k∧(∀p∈pl.take k,Zh4 g a p)∧∀x∈Zj (pl.take k),Zz x) (fun _ y _=>pl.length-iv y) ⟨0,none,0,0,rfl,rfl,by omega,rfl,by simpa[Zj]using n0',by omega,by simp,by simp[Zj]⟩ ?_
 rintro _ _ w3 ⟨k,A,n,c,rfl,rfl,hk,hn,hst,hnk,hall,hin⟩ C hC
 have k3:=hst.box 0 rfl
 simp[Zp]at k3
 simp -dsimp[go_sem]
 refine Za (fun q6=>?_) (fun q6=>?_)
 ·have q6':k<pl.length:=by simpa using q6
  obtain ⟨b2,o2,vr,rfl,hb2,d1,d2,d3,dr,i1,i2⟩:=Zev (Rep.below hP (hst.chg.below hB fun _ _=>id)) q6'
  have hmem:pl[k]∈g.prods.drop a:=by rw[hE];exact List.getElem_mem q6'
  obtain ⟨Ar,cr,rfl,lr,mr,_⟩:=Zay dr
  have hst4:=hst.alloc #[.int .i64 pl[k].1,.slice Ar pl[k].2.1.length cr,.int .i64 pl[k].2.2] 50
  have drw:=Rep.below dr (((Chg.refl noB w3).alloc (.cells #[.int .i64 pl[k].1,.slice Ar pl[k].2.1.length cr,.int .i64 pl[k].2.2] 50)).below (B:=B) (by have:=hst.chg.size;omega) fun _ _=>id)
  simp -dsimp[go_sem,q6',d1,d2,d3]
  generalize w3.alloc (.cells #[.int .i64 pl[k].1,.slice Ar pl[k].2.1.length cr,.int .i64 pl[k].2.2] 50)=w4 at hst4 drw ⊢
  generalize w3.heap.size=tb at hst4 ⊢
  have k4:=hst4.box 0 rfl
  have kt:=hst4.box 2 rfl
  simp[Zp]at k4 kt
  have bad:¬Zh4 g a pl[k]→¬Zhz g a:=fun hn hs=>hn (hs.each _ hmem)
  refine Za (fun q7=>?_) (fun q7=>?_)<;>simp at q7
  ·simp -dsimp[go_sem]
   exact no _ hst4.chg (bad fun hs=>by have:=hs.l0;omega)
  simp -dsimp[go_sem,kt,k4]
  refine Za (fun q8=>?_) (fun q8=>?_)<;>simp at q8
  ·simp -dsimp[go_sem]
   exact no _ hst4.chg (bad fun hs=>by have:=hs.l1;omega)
  simp -dsimp[go_sem,kt,k4]
  refine Za (fun q9=>?_) (fun q9=>?_)<;>simp at q9
  ·simp -dsimp[go_sem]
   exact no _ hst4.chg (bad fun hs=>by have:=hs.v0;omega)
  simp -dsimp[go_sem,kt,k4]
  refine Za (fun q10=>?_) (fun q10=>?_)<;>simp at q10
  ·exact no _ hst4.chg (bad fun hs=>by have:=hs.v1;omega)
  simp -dsimp[go_sem,kt,k4]
  refine Zbp.l19_intro _ _ _ _ _ _ _ _ _ _ _ _ (fun y w'=>∃j:Nat,y = .int .i64 j∧j≤pl[k].2.1.length∧w4=w'∧∀s∈pl[k].2.1.take j,1≤s∧s<(g.terms.length+g.nons.length:Int)∧((g.terms.length:Int)≤s→(g.terms.length+a:Int)≤s)) (fun y _=>pl[k].2.1.length-iv y) ⟨0,rfl,by omega,rfl,by simp⟩ ?_
  rintro _ _ ⟨j,rfl,hj,rfl,hjl⟩ C' hC'
  simp -dsimp[go_sem]
  refine Za (fun q11=>?_) (fun q11=>?_)<;>simp at q11
  ·obtain ⟨b3,o3,rfl,hb3,f1,f2⟩:=Go.Px.ints_at drw q11
   have wj:=Zau q11 (Nat.le_trans lr mr)
   simp -dsimp[go_sem,q11,f1]
   have bad2:¬(1≤pl[k].2.1[j]∧pl[k].2.1[j]<(g.terms.length+g.nons.length:Int)∧((g.terms.length:Int)≤pl[k].2.1[j]→(g.terms.length+a:Int)≤pl[k].2.1[j]))→¬Zhz g a:=fun hn=>bad fun hs=>hn (hs.right _ (List.getElem_mem q11))
   refine Za (fun q12=>?_) (fun q12=>?_)<;>simp at q12
   ·simp -dsimp[go_sem]
    exact no _ hst4.chg (bad2 fun hs=>by omega)
   simp -dsimp[go_sem,k4]
   refine Za (fun q13=>?_) (fun q13=>?_)<;>simp at q13
   ·simp -dsimp[go_sem]
    exact no _ hst4.chg (bad2 fun hs=>by omega)
   simp -dsimp[go_sem,k4]
   have go:(1≤pl[k].2.1[j]∧pl[k].2.1[j]<(g.terms.length+g.nons.length:Int)∧((g.terms.length:Int)≤pl[k].2.1[j]→(g.terms.length+a:Int)≤pl[k].2.1[j]))→C' (.int .i64 ((j:Int)+1)) w4:=fun hg=>by
    refine hC' _ _ ⟨j+1,by simp,by omega,rfl,fun s hs=>?_⟩ (by simp[iv];omega)
    rw[List.take_succ_eq_append_getElem q11]at hs
    rcases List.mem_append.1 hs with hs|hs
    ·exact hjl s hs
    ·rw[List.mem_singleton.1 hs];exact hg
   refine Za (fun q14=>?_) (fun q14=>?_)<;>simp at q14
   ·simp -dsimp[go_sem,wj]
    refine Za (fun q15=>?_) (fun q15=>?_)<;>simp at q15
    ·exact no _ hst4.chg (bad2 fun hs=>by omega)
    ·simp -dsimp[go_sem,wj]
     exact go (by omega)
   ·simp -dsimp[go_sem,wj]
    exact go (by omega)
  ·have hja:j=pl[k].2.1.length:=by omega
   subst hja
   rw[List.take_length]at hjl
   have hok:Zh4 g a pl[k]:=⟨by omega,by omega,by omega,by omega,hjl⟩
   have hlefts:=Zl8 hst4 1 rfl hin
   simp -dsimp[go_sem,kt]
   refine Zf (Ztv hlefts) ?_
   rintro _ _ ⟨rfl,rfl⟩
   have wk:IntKind.i64.wrap ((k:Int)+1)=(k:Int)+1:=IntWalk.i64_in _ (by omega)
   have htk:pl.take (k+1)=pl.take k++[pl[k]]:=List.take_succ_eq_append_getElem q6'
   have hlt:Zj (pl.take (k+1))=addL (Zj (pl.take k)) pl[k].1:=by rw[htk,Zir]
   have hall':∀p∈pl.take (k+1),Zh4 g a p:=by
    intro p hp
    rw[htk]at hp
    rcases List.mem_append.1 hp with hp|hp
    ·exact hall p hp
    ·rw[List.mem_singleton.1 hp];exact hok
   by_cases hc:pl[k].1∈Zj (pl.take k)
   ·have ha:addL (Zj (pl.take k)) pl[k].1=Zj (pl.take k):=if_pos hc
    rw[ha]at hlt
    simp -dsimp[go_sem,hc,wk]
    have h8:=hst4.take 2
    rw[←hlt]at h8
    refine hC _ _ _ ⟨k+1,_,_,_,by simp,rfl,by omega,by rw[hlt];exact hn,h8,by omega,hall',?_⟩ (by simp[iv];omega)
    rw[hlt];exact hin
   ·have ha:addL (Zj (pl.take k)) pl[k].1=Zj (pl.take k)++[pl[k].1]:=if_neg hc
    rw[ha]at hlt
    simp -dsimp[go_sem,hc,kt]
    refine hst4.append1 1 rfl Zqw iInt rfl (by omega) (news:=[.int .i64 pl[k].1]) rfl (by simp[Value.oneCell']) (by unfold maxLen;omega) (by unfold Zr;omega) ?_
    intro g' cap w6 hst6
    simp -dsimp[go_sem,wk]
    have h8:=hst6.take 2
    have em:(Zj (pl.take k)).map (Value.int .i64 ·)++[.int .i64 pl[k].1]=(Zj (pl.take (k+1))).map (Value.int .i64 ·):=by rw[hlt,List.map_append];rfl
    rw[em]at h8
    refine hC _ _ _ ⟨k+1,_,_,_,by simp,rfl,by omega,by rw[hlt,List.length_append,hn];rfl,h8,by omega,hall',?_⟩ (by simp[iv];omega)
    rw[hlt]
    intro x hx
    rcases List.mem_append.1 hx with hx|hx
    ·exact hin x hx
    ·rw[List.mem_singleton.1 hx];exact i1
 ·have hka:k=pl.length:=by
   have:¬k<pl.length:=by simpa using q6
   omega
  subst hka
  rw[List.take_length]at hst hall hn hin
  clear hC C
  have hstd:=hst.old ((Chg.refl noB w3).drew)
  have kd:=hstd.box 0 rfl
  simp[Zp]at kd
  have wn:IntKind.i64.wrap ((g.nons.length:Int)-a)=(g.nons.length:Int)-a:=IntWalk.i64_in _ (by omega)
  have hlefts:=Zl8 hstd 1 rfl hin
  simp -dsimp[go_sem,kd,k3,wn]
  have fin:∀b:Bool,(b=true↔Zhz g a)→R (.returned (.tuple #[.slice A n c,.bool b])) w3.drew:=fun b hb=>
   hR _ _ ⟨⟨.slice A n c,(by rw[←Zn2 (hb.trans Zf6.symm)]),fun _=>by rw[hE];exact hlefts⟩,hstd.chg⟩
  have each:∀p∈g.prods.drop a,Zh4 g a p:=by rw[hE];exact hall
  refine Za (fun q7=>?_) (fun q7=>?_)<;>simp at q7
  ·simp -dsimp[go_sem,kd,k3]
   refine Za (fun q8=>?_) (fun q8=>?_)<;>simp at q8
   ·simp -dsimp[go_sem,kd,k3]
    refine fin _ ?_
    rw[decide_eq_true_iff]
    exact ⟨fun hs=>⟨by omega,by omega,each,by rw[hE,←hn];omega,q8,hs⟩,fun hs=>hs.s1⟩
   ·exact fin false ⟨fun h=>(by cases h),fun hs=>by have:=hs.s0;omega⟩
  ·exact fin false ⟨fun h=>(by cases h),fun hs=>by have:=hs.lefts;rw[hE,←hn]at this;omega⟩
end Go.Proofs.YtckbgeedlobfaaaGreatDoor
namespace Go.Proofs.YtckbgeedlobfaaaGreatDoor
open Go.Px Go.Px.Scan Go.RowKit
attribute [-go_sem] Builtin.append_
theorem Zvu {w:World}{B:Nat}{v:Value}{g:Gr}(h:Zcz.atN w B v g)(hB:B≤w.heap.size):Ct Tryz.prog Ze7.id #[v] w fun r w'=>r = .bool (Zrv g)∧Chg noB w w':=by
 refine Ze7.ct fun R hR=>?_
 obtain ⟨A1,c1,A2,c2,A3,c3,A4,c4,rfl,h1,h2,h3,h4,h5,⟨l1,m1⟩,⟨l2,m2⟩,⟨l3,m3⟩,⟨l4,m4⟩⟩:=(Zbl h).ex
 have no:∀w',Chg noB w w'→¬Zbh g→R (.returned (.bool false)) w':=fun w' hc hn=>hR _ _ ⟨by rw[Zfp Zfz hn],hc⟩
 unfold Ze7.run
 simp -dsimp[go_sem]
 have h0:=(St.refl noB w).alloc #[.slice A1 g.terms.length c1,.slice A2 g.nons.length c2,.slice A3 g.levels.length c3,.int .i64 g.start,.slice A4 g.prods.length c4] 27
 have hb1:=h0.chg.below hB fun _ _=>id
 have hB1:B≤(w.alloc (.cells #[.slice A1 g.terms.length c1,.slice A2 g.nons.length c2,.slice A3 g.levels.length c3,.int .i64 g.start,.slice A4 g.prods.length c4] 27)).heap.size:=by have:=h0.chg.size;omega
 generalize w.heap.size=q at h0 ⊢
 generalize w.alloc (.cells #[.slice A1 g.terms.length c1,.slice A2 g.nons.length c2,.slice A3 g.levels.length c3,.int .i64 g.start,.slice A4 g.prods.length c4] 27)=w1 at h0 hb1 hB1 ⊢
 refine Zf (Zo8 (Za2 h hb1) hB1 (a:=0) (by omega)) ?_
 rintro _ w2 ⟨rfl,hc2⟩
 have hst2:=h0.old hc2
 have k2:=hst2.box 0 rfl
 simp[Zp]at k2
 cases hs:symB g 0 with
 | false=>
  simp -dsimp[go_sem]
  refine no _ hst2.chg fun hv=>?_
  rw[Zi2.2 hv.syms]at hs;cases hs
 | true=>
  have hsP:=Zi2.1 hs
  simp -dsimp[go_sem,k2]
  have hb2:=hst2.chg.below (B:=B) (by omega) fun _ _=>id
  refine Zf (Zjh (Za2 h hb2) (by have:=hc2.size;omega) (a:=0) (by omega) hsP) ?_
  rintro _ w3 ⟨⟨vl,rfl,hl⟩,hc3⟩
  have hst3:=hst2.old hc3
  simp -dsimp[go_sem]
  cases hp:Zzo g 0 with
  | false=>
   simp -dsimp[go_sem]
   refine no _ hst3.chg fun hv=>?_
   rw[Zf6.2 hv.prods]at hp;cases hp
  | true=>
   have hpP:=Zf6.1 hp
   have hl':=hl hp
   rw[List.drop_zero]at hl'
   simp -dsimp[go_sem]
   refine Zf (Zt5 hl' (Nat.le_refl _)) ?_
   rintro _ w4 ⟨rfl,hc4⟩
   refine hR _ _ ⟨?_,hst3.chg.trans hc4⟩
   congr 1
   refine Zn2 ?_
   rw[decide_eq_true_iff,Zfz]
   exact ⟨fun hs=>⟨hsP,hpP,hs⟩,fun hv=>hv.sorted⟩
end Go.Proofs.YtckbgeedlobfaaaGreatDoor
namespace Go.Proofs.YtckbgeedlobfaaaGreatDoor
open Go.Px Go.Px.Scan Go.RowKit
theorem ZZ203:(Tryz.prog.info? 5).map (fun i=>(i.zero,i.size,i.bytes))=some (some (.int .u8 0),1,1):=by kernel_rfl
theorem info_parts {P:Program}{e:TypeId}{z:Value}{sz b:Nat}(h:(P.info? e).map (fun i=>(i.zero,i.size,i.bytes))=some (some z,sz,b)):∃i,P.info? e=some i∧i.zero=some z∧i.size=sz∧i.bytes=b:=by
 cases hq:P.info? e with
 | none=>rw[hq]at h;cases h
 | some i=>rw[hq]at h;simp at h;exact ⟨i,rfl,h.1,h.2.1,h.2.2⟩
theorem Zo4 {w:World}{g:Nat}(f:Obj→Obj):Chg (·=g) w {w with heap:=w.heap.modify g f } :=
 ⟨rfl,rfl,rfl,by simp,fun k _ hk=>by rw[Array.getElem?_modify];simp[Ne.symm hk]⟩
theorem Zwu {w:World}{g:Nat}(cs:Array Value):Chg (·=g) w (w.setRow g cs):=Zo4 _
theorem Zxf {w:World}{a:Addr}{n:Nat}:Chg (·=a.block) w (w.freeze a n):=by
 unfold World.freeze
 split
 ·exact Chg.refl _ _
 ·exact Zo4 _
theorem Zwg {s:ByteArray}(hs:s.size≤1000)(w:World):Ct Tryz.prog Za1.id #[.string s] w fun v w'=>v = .string s∧Chg (fun _=>False) w w':=by
 refine Za1.ct fun R hR=>?_
 obtain ⟨i0,hi,hz0,hz1,hz2⟩:=info_parts ZZ203
 unfold Za1.run Za1.b1
 simp[go_sem]
 refine Za (fun h=>?_) (fun h=>?_)<;>simp at h
 ·refine hR _ _ ⟨?_,Chg.refl _ _⟩
  rw[h];rfl
 ·have hpos:0<s.size:=by
   rcases Nat.eq_zero_or_pos s.size with h0|h0
   ·exact absurd (Zh6 (by rw[show s.data.toList=[] from List.eq_nil_of_length_eq_zero (by simpa using h0)];rfl)) h
   ·exact h0
  simp[go_sem]
  rw[run_makeSlice w 55 5 i0 _ Tryz.underlying55 hi hz0 .i64 .i64 s.size s.size (by omega) (by omega) (by rw[hz1];omega) (by rw[hz2];omega) (by omega),Zb9]
  have hcs:(madeCells (Value.int IntKind.u8 0).cells ((s.size:Int).toNat*i0.size)).size=s.size:=by rw[size_madeCells,hz1];simp
  generalize madeCells (Value.int IntKind.u8 0).cells ((s.size:Int).toNat*i0.size)=cs at hcs ⊢
  have hg1:(w.alloc (.cells cs 5)).heap[w.heap.size]?=some (.cells cs 5 (0,0)):=World.alloc_heap_new w _
  have hc1:Chg (fun _=>False) w (w.alloc (.cells cs 5)):=(Chg.refl _ _).alloc _
  generalize w.alloc (.cells cs 5)=w1 at hg1 hc1 ⊢
  have hs1:=hc1.size
  rw[Zd0,Int.toNat_natCast,Lib.run_copy_row_string w1 55 9 3 5 w.heap.size 0 s.size s.size s cs 5 Tryz.underlying55 (by rw[hi,Option.map_some,hz1]) hg1 (Nat.le_refl _) (by omega),Zb9]
  have hrow:(cs.toList.take 0++Lib.byteCells s.data.toList++cs.toList.drop (0+s.size)).toArray=(Lib.byteCells s.data.toList).toArray:=by
   rw[List.take_zero,List.nil_append,List.drop_of_length_le (by simp;omega),List.append_nil]
  rw[hrow]
  have hc2:Chg (fun _=>False) w (w1.setRow w.heap.size (Lib.byteCells s.data.toList).toArray):=hc1.trans' (Zwu _) (fun i hi h=>by omega)
  have hg2:(w1.setRow w.heap.size (Lib.byteCells s.data.toList).toArray).heap[w.heap.size]?=some (.cells (Lib.byteCells s.data.toList).toArray 5 (0,0)):=by
   unfold World.setRow
   rw[Array.getElem?_modify,if_pos rfl,hg1]
   rfl
  generalize w1.setRow w.heap.size (Lib.byteCells s.data.toList).toArray=w2 at hc2 hg2 ⊢
  have hp:(0:Int)<s.size:=by omega
  simp[go_sem,hpos,hp]
  have hl:s.data.toList≠[]:=fun e=>by
   have h3:s.data.toList.length=s.size:=by simp
   rw[e]at h3;simp at h3;omega
  have hln:s.data.toList.length=s.size:=by simp
  have hrun:=Lib.run_unsafeString_row (P:=Tryz.prog) (w:=w2) 92 3 9 5 Tryz.underlying92 (by kernel_rfl) w.heap.size s.size (by
   unfold World.shape?
   rw[hg2]
   simp[Lib.byteCells]) s.data.toList hl (by omega) (by omega) (fun j x hj=>by
    rw[Addr.add_lit]
    simp only[World.cell?,hg2,Nat.zero_add]
    simp[Lib.byteCells,hj])
  rw[hln]at hrun
  rw[hrun,Zb9]
  refine hR _ _ ⟨by cases s;rfl,hc2.trans' Zxf (fun i hi h=>?_)⟩
  simp at h;omega
theorem ZZ145 {s:ByteArray}(hs:s.size≤1000)(w:World):Ct Tryz.prog Zdy.id #[.string s] w fun v w'=>v = .string s∧Chg (fun _=>False) w w':=by
 refine Zdy.ct fun R hR=>?_
 unfold Zdy.run Zdy.b1
 exact Zf (Zwg hs w) fun v w' h=>hR v w' h
end Go.Proofs.YtckbgeedlobfaaaGreatDoor
namespace Go.Px.Scan
open Go.Px
def posN:List ByteArray→ByteArray→Nat
 | [],_=>0
 | x::r,s=>if x=s then 0 else posN r s+1
theorem ZZ212 (l:List ByteArray)(s:ByteArray):posN l s≤l.length:=by
 induction l with
 | nil=>exact Nat.le_refl _
 | cons x r ih=>unfold posN;split<;>simp;omega
theorem Zc2 {l:List ByteArray}{s:ByteArray}(h:s∈l):posN l s<l.length∧l[posN l s]?=some s:=by
 induction l with
 | nil=>cases h
 | cons x r ih=>
  unfold posN
  by_cases hx:x=s
  ·rw[if_pos hx];simp[hx]
  ·rw[if_neg hx]
   have:=ih (by rcases List.mem_cons.1 h with h | h;exact absurd h.symm hx;exact h)
   exact ⟨by simp;exact this.1,by simpa using this.2⟩
theorem Zum {l:List ByteArray}{s:ByteArray}(h:s∉l):posN l s=l.length:=by
 induction l with
 | nil=>rfl
 | cons x r ih=>
  unfold posN
  simp at h
  rw[if_neg (fun e=>h.1 e.symm),ih h.2];rfl
theorem Zg8 {l:List ByteArray}{s:ByteArray}:posN l s<l.length↔s∈l:=by
 constructor
 ·intro h
  exact Classical.byContradiction fun h2=>by rw[Zum h2]at h;omega
 ·exact fun h=>(Zc2 h).1
theorem Zmk (l:List ByteArray)(x s:ByteArray):posN (l++[x]) s=if posN l s<l.length then posN l s else if x=s then l.length else l.length+1:=by
 induction l with
 | nil=>simp[posN]
 | cons y r ih=>
  have e1:posN (y::(r++[x])) s=if y=s then 0 else posN (r++[x]) s+1:=rfl
  have e2:posN (y::r) s=if y=s then 0 else posN r s+1:=rfl
  rw[List.cons_append,e1,e2,ih]
  by_cases hy:y=s
  ·simp[hy]
  ·simp only[if_neg hy,List.length_cons]
   by_cases h:posN r s<r.length
   ·have h2:posN r s+1<r.length+1:=by omega
    simp only[if_pos h,if_pos h2]
   ·have h2:¬posN r s+1<r.length+1:=by omega
    simp only[if_neg h,if_neg h2]
    split<;>rfl
def posH (l:List ByteArray)(s:ByteArray):Int:=if posN l s<l.length then (posN l s:Int)+1 else 0
theorem Zf4 {l:List ByteArray}{s:ByteArray}:posH l s=0↔s∉l:=by
 unfold posH
 split
 ·rename_i h;constructor
  ·intro h2;omega
  ·intro h2;exact absurd (Zg8.1 h) h2
 ·rename_i h;exact ⟨fun _ h2=>h (Zg8.2 h2),fun _=>rfl⟩
theorem Zz0 {l:List ByteArray}{x:ByteArray}(hx:x∉l)(s:ByteArray):posH (l++[x]) s=if s=x then (l.length:Int)+1 else posH l s:=by
 unfold posH
 rw[Zmk,List.length_append]
 by_cases hs:s=x
 ·subst hs
  have:¬posN l s<l.length:=fun h=>hx (Zg8.1 h)
  simp[this]
 ·have:¬x=s:=fun e=>hs e.symm
  have hle:=ZZ212 l s
  by_cases h:posN l s<l.length
  ·simp[h,hs];intro h2;omega
  ·simp[h,hs,this]
end Go.Px.Scan
namespace Go.Proofs.YtckbgeedlobfaaaGreatDoor
open Go.Px Go.Px.Scan Go.RowKit
theorem mapTy:Zm7 Tryz.prog kStr 98 9 3 where
 tm:=Tryz.underlying98
 te:=Tryz.underlying3
 keyed:=Maps.string_keyed Tryz.underlying9
 key a ha:=WideMaps.keyOf_string_mk Tryz.underlying9 ha
 zero w:=by simp[go_sem]
def Row (w:World)(T:Nat→Nat)(tag:Nat)(e size:Nat)(v:Value)(n:Nat)(xs:List Value):Prop:=w.ownsRow 0 e size v n xs∧∀i,v.ownBlock=some i→T i=tag
theorem Zc7 {F:Nat→Prop}{w w':World}{base e size:Nat}{v:Value}{n:Nat}{xs:List Value}(h:w.ownsRow base e size v n xs)(hc:Chg F w w')(hF:∀i,v.ownBlock=some i→¬F i):w'.ownsRow base e size v n xs:=by
 refine ⟨h.1,?_⟩
 rcases h.2 with h2|⟨g,cap,cur,hv,hb,hg,hr⟩
 ·exact Or.inl h2
 ·refine Or.inr ⟨g,cap,cur,hv,hb,?_,hr⟩
  rw[hc.block g (Array.getElem?_eq_some_iff.1 hg).1 (hF g (by rw[hv];rfl))]
  exact hg
theorem Row.keep {F:Nat→Prop}{w w':World}{T T':Nat→Nat}{tag e size:Nat}{v:Value}{n:Nat}{xs:List Value}(h:Row w T tag e size v n xs)(hc:Chg F w w')(hF:∀i,T i=tag→¬F i)(hT:∀i,i<w.heap.size→T' i=T i):Row w' T' tag e size v n xs :=
 ⟨Zc7 h.1 hc fun i hi=>hF i (h.2 i hi),fun i hi=>by rw[hT i (Zcf h.1 hi).2];exact h.2 i hi⟩
structure Nm (w:World)(T:Nat→Nat)(b o tx tm:Nat)(v m:Value)(l:List ByteArray):Prop where
 c0:w.cell? ⟨b,o,none⟩=some v
 c1:w.cell? ⟨b,o+1,none⟩=some m
 f0:w.frozen? ⟨b,o,none⟩=false
 f1:w.frozen? ⟨b,o+1,none⟩=false
 row:Row w T tx 9 1 v l.length (l.map Value.string)
 map:Zgp Tryz.prog kStr 9 3 w m l.length (posH l)
 tag:∀i,m = .map (some i)→T i=tm
theorem Nm.keep {F:Nat→Prop}{w w':World}{T T':Nat→Nat}{b o tx tm:Nat}{v m:Value}{l:List ByteArray}(h:Nm w T b o tx tm v m l)(hc:Chg F w w')(hb:¬F b)(hx:∀i,T i=tx→¬F i)(hm:∀i,T i=tm→¬F i)(hT:∀i,i<w.heap.size→T' i=T i):Nm w' T' b o tx tm v m l :=
 ⟨hc.at h.c0 hb,hc.at h.c1 hb,(hc.frozen (p:=⟨b,o,none⟩) (World.block_lt_of_cell? _ _ h.c0) hb).trans h.f0,(hc.frozen (p:=⟨b,o+1,none⟩) (World.block_lt_of_cell? _ _ h.c1) hb).trans h.f1,
  h.row.keep hc hx hT,h.map.chg hc fun i hi=>hm i (h.tag i hi),fun i hi=>by rw[hT i (h.map.lt hi)];exact h.tag i hi⟩
theorem Zkd {w:World}{base e size:Nat}{v:Value}{n:Nat}{xs:List Value}(h:w.ownsRow base e size v n xs):∃a c,v = .slice a n c:=by
 rcases h.2 with ⟨h1,h2⟩|⟨g,cap,cur,he,_⟩
 ·exact ⟨none,0,by rw[h1,h2]⟩
 ·exact ⟨_,_,he⟩
theorem Znc {w:World}{T:Nat→Nat}{tag e size:Nat}{v:Value}{n:Nat}{xs:List Value}(h:Row w T tag e size v n xs):∃a c,v = .slice a n c:=Zkd h.1
theorem Zyd {w:World}{T:Nat→Nat}{b o tx tm:Nat}{v m:Value}{l:List ByteArray}(h:Nm w T b o tx tm v m l){s:ByteArray}(hs:s.size≤maxLen):Ct Tryz.prog Zcx.id #[.pointer (some ⟨b,o,none⟩),.string s] w fun r w'=>r = .int .i64 (posH l s)∧w=w':=by
 refine Zcx.ct fun R hR=>?_
 unfold Zcx.run Zcx.b1
 have hl:=h.map.lookup mapTy s hs
 simp[go_sem,h.c0,h.c1]
 rw[show (Value.string s)=kStr.val s from rfl,hl,Zb9]
 exact hR _ _ ⟨rfl,rfl⟩
theorem Zla {w:World}{T:Nat→Nat}{b o tx tm:Nat}{v m:Value}{l:List ByteArray}(h:Nm w T b o tx tm v m l):Ct Tryz.prog Zao.id #[.pointer (some ⟨b,o,none⟩)] w fun r w'=>r = .int .i64 l.length∧w=w':=by
 refine Zao.ct fun R hR=>?_
 obtain ⟨a,c,hv⟩:=Znc h.row
 have hc0:=h.c0
 rw[hv]at hc0
 unfold Zao.run Zao.b1
 simp[go_sem,hc0]
 exact hR _ _ ⟨rfl,rfl⟩
end Go.Proofs.YtckbgeedlobfaaaGreatDoor
