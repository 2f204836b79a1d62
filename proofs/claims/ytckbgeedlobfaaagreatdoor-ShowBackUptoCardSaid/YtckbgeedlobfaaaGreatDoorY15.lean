/-
  Texts of this claim: Sp10, Sp11, Sp12, Sp13, Sp14, Sp15, Sc10, Sp16, Sp17, Sp18, Sp19, Gl2.
-/
import Derived.Test.YtckbgeedlobfaaaGreatDoorY14
import Derived.Test.YtckbgeedlobfaaaGreatDoorY09
import Derived.RecoverIn
import Derived.RangeFuncLeaves
import Derived.Test.YtckbgeedlobfaaaGreatDoorY11
import Derived.Test.YtckbgeedlobfaaaGreatDoorY02
import Derived.RangeFuncNested
import Derived.RangeFuncBound
import Derived.RangeFuncCalls
import Derived.Shelf.Abstract
import Derived.Shelf.RegionOpen
import Derived.WalkKit
set_option maxHeartbeats 1000000
set_option linter.unusedSimpArgs false
set_option linter.unusedVariables false
set_option maxRecDepth 100000
namespace Go.Proofs.YtckbgeedlobfaaaGreatDoor
open Go.Px Go.Px.Scan Go.Px.Spec Go.RowKit
attribute [-go_sem] Builtin.append_ Zc.b4 Zc.b3 Zc.b18
section
variable {F:Nat→Prop} {w w1:World} {b:Nat} {A:Option Addr} {c:Nat} {ws:List Wd} {e:Int} {i j ph:Nat} {hs:List (Nat×List ByteArray)} {st rl:ByteArray} {ls:List ByteArray} {rs:List RowS} {D:RD} {R:EP} {C:World→Prop} {d:Nat}
theorem bHd1 (x:Int)(w:World):(Instr.build 118 #[(0,.int .i64 x)]).run Tryz.prog w = .ok (.agg #[.int .i64 x,.slice none 0 0]) w:=by simp[go_sem]
attribute [go_sem ↓] bHd1
theorem Zwb {m:Mc}(s:St F w w1 (rdL b A c ws e j hs st ls rs D))(hB:Rb ws j hs ls rs D)(hlt:j<ws.length)(hj:hs.length≤j)(hd:d≤3)
  (hg:goM m (ws.drop i)=goM ⟨1,hs++[(d,[])],st,rl,ls,rs⟩ (ws.drop (j+1)))
  (hR:∀j' hs' D' w',j<j'→goM m (ws.drop i)=goM ⟨0,hs',st,rl,ls,rs⟩ (ws.drop j')→St F w w' (rdL b A c ws e j' hs' st ls rs D')→Rb ws j' hs' ls rs D'→R (.returned (.tuple #[])) w')
  (hX:∀a,Zew e m (ws.drop i) a→∀w',Chg F w w'→R (.panicked (badP a)) w') :
  Zc.b3 R (.pointer (some ⟨b,0,none⟩)) (.int .i64 d) w1:=by
 have hsz:=hB.sz
 have wk:IntKind.i64.wrap ((j:Int)+1)=(j:Int)+1:=IntWalk.i64_in _ (by omega)
 obtain ⟨y,yf,yb⟩:=s.box 0 rfl
 simp[Zp,Zea]at y
 have yf1:=yf 1
 have s2:=s.set 0 rfl 1 (.int .i64 ((j:Int)+1))
 unfold Zc.b3
 simp -dsimp[go_sem,y,yf1,wk]
 generalize w1.setCell ⟨b,1,none⟩ (.int .i64 ((j:Int)+1))=w2 at s2 ⊢
 have s3:St F w w2 (rdL b A c ws e (j+1) hs st ls rs D):=s2
 have hr3:=s3.rdr 0 1 rfl rfl hlt hsz
 refine Zmg s3 hr3 fun w4 s4 hr4=>?_
 simp -dsimp[go_sem]
 refine Za (fun h3=>?_) (fun h3=>?_)<;>simp at h3
 ·refine Zim (X:=pan R) s4 hr4 fun w5 hc5=>?_
  exact hX _ (Zew.congr hg (Zfc (by simp[Zbv,h3]) (Or.inl (show (1:Nat)≠9 by decide)))) w5 hc5
 ·unfold Zc.b4
  have s5:=s4.alloc #[.int .i64 d,.slice none 0 0] 118
  simp -dsimp[go_sem]
  generalize w4.alloc (.cells #[.int .i64 d,.slice none 0 0] 118)=w5 at s5 ⊢
  generalize w4.heap.size=hb at s5 ⊢
  have s6:=s5.nilRow 9 1
  have hk:knF (hs++[(d,[])])=knF hs:=by funext t;unfold knF;rw[Zp4];simp[hasB]
  refine Zww (m:=m) (i:=i) (j:=j+1) (hs:=hs) (st:=st) (rl:=rl) (ls:=ls) (rs:=rs) (D:=D) (kc:=D.kc) (F:=F) (w:=w) (A:=A) (c:=c) (e:=e) ?_ (hB.up (by omega) hlt) (by omega) (by have:=hB.kc;omega) hd h3 hg (fun j' hs' D' w' h=>hR j' hs' D' w' (by omega)) hX
  unfold hdL
  rw[hk]
  exact s6
theorem ZZ266 {t:ByteArray}{d:Nat}(h:Zfs t=some d):d≤3:=by
 unfold Zfs at h
 by_cases h1:t=Zg6
 ·rw[if_pos h1]at h;injection h;omega
 rw[if_neg h1]at h
 by_cases h2:t=Zs8
 ·rw[if_pos h2]at h;injection h;omega
 rw[if_neg h2]at h
 by_cases h3:t=Zn3
 ·rw[if_pos h3]at h;injection h;omega
 rw[if_neg h3]at h
 by_cases h4:t=kNon
 ·rw[if_pos h4]at h;injection h;omega
 rw[if_neg h4]at h
 cases h
theorem Zm8 {t:ByteArray}:t.toList=[37,115,116,97,114,116]↔t=Zh2:=by
 rw[←toList_inj,show Zh2.toList=[37,115,116,97,114,116] by rw[ByteArray.toList_eq];rfl]
theorem Zhs {t:ByteArray}:t.toList=[]↔t=noT:=by
 rw[←toList_inj,show noT.toList=[] by rw[ByteArray.toList_eq];rfl]
section
variable (a b:Value) (w:World)
theorem ext20:(Instr.extract (.tuple #[a,b]) 0).run Tryz.prog w = .ok a w:=by simp[go_sem]
theorem ext21:(Instr.extract (.tuple #[a,b]) 1).run Tryz.prog w = .ok b w:=by simp[go_sem]
end
theorem ZZ69 (s:St F w w (rdL b A c ws e i hs st ls rs D))(hB:Rb ws i hs ls rs D)(hk:(nowW ws e i).1=3)(hst:st.size≤maxLen) :
  CtE Tryz.prog Zc.id #[.pointer (some ⟨b,0,none⟩)] w (Ztj F w b A c ws e i ⟨0,hs,st,rl,ls,rs⟩ 0):=by
 refine CtE.intro Zc.enters fun R hR=>Zc.calls R _ w ?_
 have hsz:=hB.sz
 have hlt:i<ws.length:=Zhp (ws:=ws) (e:=e) (by rw[hk];decide)
 have hm:Zbv ⟨0,hs,st,rl,ls,rs⟩ (nowW ws e i)=Zl4 ⟨0,hs,st,rl,ls,rs⟩ (nowW ws e i):=by simp[Zbv,hk]
 have htx:(nowW ws e i).2.1.size≤maxLen:=Zvi hB.tx
 unfold Zc.run
 refine Zyk (X:=pan R) (K:=fun _=>True) s (fun w2 v s2=>?_) rfl
 have hr2:=s2.rdr (i:=i) (c:=c) (ws:=ws) (A:=A) (e:=e) 0 1 rfl rfl hB.le hsz
 refine Zka s2 hr2 fun w3 s3 hr3=>?_
 have mg:(Instr.lookup 98 v (.string (nowW ws e i).2.1) true).run Tryz.prog w3 = .ok (.tuple #[.int .i64 ((Zmy (nowW ws e i).2.1).getD 0),.bool (Zmy (nowW ws e i).2.1).isSome]) w3:=s3.mapOGet mStr 8 rfl _ htx
 have s4:St F w w3 (rdL b A c ws e i hs st ls rs D):=s3.take 8
 have hr4:=hr3
 clear s2 s3 hr2 hr3
 generalize hx:nowW ws e i=x at hm htx mg
 rw[show wdV x = .agg #[.int .i64 x.1,.string x.2.1,.int .i64 x.2.2] from rfl]
 unfold Zc.b1_1
 rw[Zd0,fWd1,Zb9,Zd0,mg,Zb9]
 rw[Zd0,ext20,Zb9,Zd0,ext21,Zb9]
 have fin:∀q:Bool,(q=true↔x.2.1=Zh2∧st=noT)→Zc.b18 R (.pointer (some ⟨b,0,none⟩)) (.int .i64 ((Zmy x.2.1).getD 0)) (.bool (Zmy x.2.1).isSome) (.bool q) w3:=fun q hq=>by
  unfold Zc.b18
  refine Za (fun h2=>?_) (fun h2=>?_)
  ·obtain ⟨h3,h4⟩:=hq.1 h2
   have hg:goM ⟨0,hs,st,rl,ls,rs⟩ (ws.drop i)=goM ⟨3,hs,st,rl,ls,rs⟩ (ws.drop (i+1)) :=
    Zd4 (e:=e) (by rw[hx,hm,Zl4,h3,show Zfs Zh2=none by decide];simp[h4]) hlt
   have wk:IntKind.i64.wrap ((i:Int)+1)=(i:Int)+1:=IntWalk.i64_in _ (by omega)
   obtain ⟨y,yf,yb⟩:=s4.box 0 rfl
   simp[Zp,Zea]at y
   have yf1:=yf 1
   have s5:=s4.set 0 rfl 1 (.int .i64 ((i:Int)+1))
   unfold Zc.b18_2
   simp -dsimp[go_sem,y,yf1,wk]
   generalize w3.setCell ⟨b,1,none⟩ (.int .i64 ((i:Int)+1))=w5 at s5 ⊢
   have s6:St F w w5 (rdL b A c ws e (i+1) hs st ls rs D):=s5
   have hr6:=s6.rdr 0 1 rfl rfl hlt hsz
   refine Zr1 (X:=pan R) s6 0 rfl hr6 (fun h5 hlt2 w7 s7=>?_) (fun h5 w7 hc7=>?_)
   ·have hg7:goM ⟨0,hs,st,rl,ls,rs⟩ (ws.drop i)=goM ⟨4,hs,(nowW ws e (i+1)).2.1,rl,ls,rs⟩ (ws.drop (i+2)):=by
     rw[hg];exact Zd4 (e:=e) (by simp[Zbv,h5]) hlt2
    have htx2:(nowW ws e (i+1)).2.1.size≤maxLen:=Zvi hB.tx
    generalize (nowW ws e (i+1)).2.1=t at hg7 htx2 ⊢
    unfold Zc.b18_1
    obtain ⟨y7,yf7,yb7⟩:=s7.box 0 rfl
    simp[Zp,Zea]at y7
    have yf5:=yf7 5
    have s8:=s7.set 0 rfl 5 (.string t)
    simp -dsimp[go_sem,y7,yf5]
    generalize w7.setCell ⟨b,5,none⟩ (.string t)=w8 at s8 ⊢
    have s9:St F w w8 (rdL b A c ws e (i+2) hs t ls rs D):=by
     have e2:((i+2:Nat):Int)=((i+1:Nat):Int)+1:=by omega
     unfold rdL Zea
     rw[e2]
     exact s8
    have hr9:=s9.rdr 0 1 rfl rfl hlt2 hsz
    refine Zkc (X:=pan R) s9 0 rfl hr9 (t:=Zge) (fun h6 hlt3 w10 s10=>?_) (fun h6 w10 hc10=>?_)
    ·refine hR _ _ (.inl ⟨i+3,hs,t,rl,ls,rs,D,rfl,by omega,?_,s10,hB.up (by omega) hlt3,htx2⟩)
     rw[hg7]
     exact Zd4 (e:=e) (by simp[Zbv,h6]) hlt3
    ·exact hR _ _ (.inr ⟨_,Zew.congr hg7 (Zfc (by simp[Zbv,h6]) (Or.inl (show (4:Nat)≠9 by decide))),rfl,hc10⟩)
   ·exact hR _ _ (.inr ⟨_,Zew.congr hg (Zfc (by simp[Zbv,h5]) (Or.inl (show (3:Nat)≠9 by decide))),rfl,hc7⟩)
  ·have hn:¬(x.2.1=Zh2∧st=noT):=fun h=>by rw[hq.2 h]at h2;cases h2
   unfold Zc.b18_3
   simp -dsimp[go_sem]
   cases hsd:Zfs x.2.1 with
   | none=>
    have hsI:Zmy x.2.1=none:=by simp[Zmy,hsd]
    rw[hsI]
    refine Za (fun h3=>?_) (fun h3=>by cases h3)
    refine Zim (X:=pan R) s4 hr4 fun w5 hc5=>?_
    exact hR _ _ (.inr ⟨_,Zfc (by rw[hx,hm,Zl4,hsd];simp[hn]) (Or.inl (show (0:Nat)≠9 by decide)),rfl,hc5⟩)
   | some d=>
    have hsI:Zmy x.2.1=some (d:Int):=by simp[Zmy,hsd]
    have hd:d≤3:=ZZ266 hsd
    rw[hsI]
    refine Za (fun h3=>by cases h3) (fun h3=>?_)
    have hg:goM ⟨0,hs,st,rl,ls,rs⟩ (ws.drop i)=goM ⟨1,hs++[(d,[])],st,rl,ls,rs⟩ (ws.drop (i+1)) :=
     Zd4 (e:=e) (by rw[hx,hm,Zl4,hsd]) hlt
    exact Zwb (i:=i) s4 hB hlt (by have:=hB.hs;omega) hd hg (fun j' hs' D' w' h1 h2 h3 h4=>hR _ _ (.inl ⟨j',hs',st,rl,ls,rs,D',rfl,h1,h2,h3,h4,hst⟩)) (fun a ha w' hc=>hR _ _ (.inr ⟨a,ha,rfl,hc⟩))
 obtain ⟨y,yf,yb⟩:=s4.box 0 rfl
 simp[Zp,Zea]at y
 unfold Zc.b17
 simp -dsimp[go_sem]
 refine Za (fun h2=>?_) (fun h2=>?_)
 ·simp -dsimp[go_sem,y]
  refine fin _ ?_
  simp at h2 ⊢
  rw[Zm8]at h2
  simp[Zhs,h2]
 ·refine fin false ?_
  simp at h2
  rw[Zm8]at h2
  simp[h2]
end
end Go.Proofs.YtckbgeedlobfaaaGreatDoor
namespace Go.Proofs.YtckbgeedlobfaaaGreatDoor
open Go.Px Go.Px.Scan Go.Px.Spec Go.RowKit
attribute [-go_sem] Builtin.append_ Zq.b2 Zq.b4 Zq.b5
def rdC (b:Nat)(A:Option Addr)(c:Nat)(ws:List Wd)(e:Int)(i:Nat)(hs:List (Nat×List ByteArray))(st:ByteArray)(ls:List ByteArray)(rs:List RowS):Ch :=
 Ch.ex fun D:RD=>Ch.fact (Rb ws i hs ls rs D∧st.size≤maxLen) (Ch.all (rdL b A c ws e i hs st ls rs D))
section
variable {G:Nat→Prop} {W w w1:World} {L:List Ch} {X:Pan} {K:Value→World→Prop} {b:Nat} {A:Option Addr} {c:Nat} {ws:List Wd} {e:Int} {i ph:Nat} {hs:List (Nat×List ByteArray)} {st rl:ByteArray} {ls:List ByteArray} {rs:List RowS} {R:EP}
theorem Zn0 (s:St G W w L)(k:Nat)(hk:L[k]?=some (rdC b A c ws e i hs st ls rs)):Rdr w b A c ws i e∧(∀x∈ws,x.2.1.size≤maxLen):=by
 obtain ⟨F,⟨D,⟨hB,hst⟩,ho⟩,_⟩:=s.get hk
 exact ⟨(St.enter ho).rdr 0 1 rfl rfl hB.le hB.sz,hB.tx⟩
theorem Zye (s:St G W w L)(k:Nat)(hk:L[k]?=some (rdC b A c ws e i hs st ls rs)){f:FuncId}{args:Array Value}{m:Mc}{ph:Nat}
  (hct:∀F D,St F w w (rdL b A c ws e i hs st ls rs D)→Rb ws i hs ls rs D→st.size≤maxLen→CtE Tryz.prog f args w (Ztj F w b A c ws e i m ph))
  (hK:∀w' i' hs' st' rl' ls' rs',i<i'→goM m (ws.drop i)=goM ⟨ph,hs',st',rl',ls',rs'⟩ (ws.drop i')→St G W w' (L.set k (rdC b A c ws e i' hs' st' ls' rs'))→K (.tuple #[]) w')
  (hX:∀a,Zew e m (ws.drop i) a→∀w',Chg G W w'→X (badP a) w'):CALL Tryz.prog X f args w K:=by
 obtain ⟨F,⟨D,⟨hB,hst⟩,ho⟩,hF,hs'⟩:=s.opn hk
 refine Zgj (hct F D (St.enter ho) hB hst) ?_
 rintro _ w' (⟨i',hs2,st2,rl2,ls2,rs2,D2,rfl,h1,h2,h3,h4,h5⟩|⟨a,ha,rfl,hc⟩)
 ·exact hK w' i' hs2 st2 rl2 ls2 rs2 h1 h2 (hs' w' _ h3.chg ⟨D2,⟨h4,h5⟩,h3.leave⟩)
 ·exact hX a ha w' (hs' w' Ch.emp hc trivial).chg
theorem Zry (s:St G W w L)(k:Nat)(hk:L[k]?=some (rdC b A c ws e i hs st ls rs))
  (hm:Zbv ⟨ph,hs,st,rl,ls,rs⟩ (nowW ws e i)=Zg5 ⟨ph,hs,st,rl,ls,rs⟩ (nowW ws e i)) (hp:ph≠9∨i<ws.length)
  (hK:∀w' i' hs' st' rl' ls' rs',i<i'→goM ⟨ph,hs,st,rl,ls,rs⟩ (ws.drop i)=goM ⟨9,hs',st',rl',ls',rs'⟩ (ws.drop i')→St G W w' (L.set k (rdC b A c ws e i' hs' st' ls' rs'))→K (.tuple #[]) w')
  (hX:∀a,Zew e ⟨ph,hs,st,rl,ls,rs⟩ (ws.drop i) a→∀w',Chg G W w'→X (badP a) w'):CALL Tryz.prog X Zh.id #[.pointer (some ⟨b,0,none⟩)] w K :=
 Zye s k hk (fun F D s' hB hst=>ZZ239 s' hB hm hp hst) hK hX
theorem Zuv (s:St G W w L)(k:Nat)(hk:L[k]?=some (rdC b A c ws e i hs st ls rs))(h3:(nowW ws e i).1=3)
  (hK:∀w' i' hs' st' rl' ls' rs',i<i'→goM ⟨0,hs,st,rl,ls,rs⟩ (ws.drop i)=goM ⟨0,hs',st',rl',ls',rs'⟩ (ws.drop i')→St G W w' (L.set k (rdC b A c ws e i' hs' st' ls' rs'))→K (.tuple #[]) w')
  (hX:∀a,Zew e ⟨0,hs,st,rl,ls,rs⟩ (ws.drop i) a→∀w',Chg G W w'→X (badP a) w'):CALL Tryz.prog X Zc.id #[.pointer (some ⟨b,0,none⟩)] w K :=
 Zye s k hk (fun F D s' hB hst=>ZZ69 s' hB h3 hst) hK hX
end
end Go.Proofs.YtckbgeedlobfaaaGreatDoor
namespace Go.Proofs.YtckbgeedlobfaaaGreatDoor
open Go.Px Go.Px.Scan Go.Px.Spec Go.RowKit
attribute [-go_sem] Builtin.append_ Zq.b2 Zq.b4 Zq.b5
section
variable {F:Nat→Prop} {w w1:World} {b:Nat} {A:Option Addr} {c:Nat} {ws:List Wd} {e:Int} {i ph:Nat} {hs:List (Nat×List ByteArray)} {st rl:ByteArray} {ls:List ByteArray} {rs:List RowS} {R:EP}
theorem Zmf (h:Rdr w b A c ws i e):atOf b w=i:=by unfold atOf;rw[h.c1];simp
theorem Zvf (l:List ByteArray)(s:ByteArray):cnt l s=0↔hasB l s=false:=by
 unfold cnt hasB
 induction l with
 | nil=>simp
 | cons x l ih=>
  by_cases h:x=s
  ·simp[h]
   have:(0:Int)≤(l.filter fun x=>decide (x=s)).length:=Int.natCast_nonneg _
   omega
  ·simp[h]at ih ⊢
   try exact ih
def Zxz (F:Nat→Prop)(w:World)(b:Nat)(A:Option Addr)(c:Nat)(ws:List Wd)(e:Int)(r:Ending)(w':World):Prop :=
 (∃hs st rl ls rs,r = .returned (.tuple #[])∧goM m0 ws=(⟨9,hs,st,rl,ls,rs⟩,[])∧Zet ⟨9,hs,st,rl,ls,rs⟩=true∧St F w w' [rdC b A c ws e ws.length hs st ls rs]) ∨
 (∃a,Zew e m0 ws a∧r = .panicked (badP a)∧Chg F w w')
theorem Zzp (s:St F w w1 [rdC b A c ws e ws.length hs st ls rs])(hg:goM m0 ws=(⟨9,hs,st,rl,ls,rs⟩,[]))(hR:∀r w',Zxz F w b A c ws e r w'→R r w') :
  Zq.b4 R (.pointer (some ⟨b,0,none⟩)) w1:=by
 obtain ⟨hr,_⟩:=Zn0 s 0 rfl
 obtain ⟨F',⟨D,⟨hB,hst⟩,ho⟩,_⟩:=s.get (k:=0) rfl
 have s0:=St.enter ho
 obtain ⟨y,yf,yb⟩:=s0.box 0 rfl
 simp[Zp,Zea]at y
 have hok:Zet ⟨9,hs,st,rl,ls,rs⟩=true↔st=noT∨hasB ls st=true:=by simp[Zet]
 have fin:∀q:Bool,(q=true↔¬(st=noT∨hasB ls st=true))→∀w2,Chg noB w1 w2→Zq.b5 R (.pointer (some ⟨b,0,none⟩)) (.bool q) w2:=fun q hq w2 hc2=>by
  have s2:=s.old hc2
  have hr2:=hr.chg hc2
  unfold Zq.b5
  refine Za (fun h2=>?_) (fun h2=>?_)
  ·refine Zim (X:=pan R) s2 hr2 fun w3 hc3=>?_
   have hno:Zet ⟨9,hs,st,rl,ls,rs⟩=false:=by
    cases hh:Zet ⟨9,hs,st,rl,ls,rs⟩ with
    | false=>rfl
    | true=>exact absurd (hok.1 hh) (hq.1 h2)
   rw[Zmo (Nat.lt_irrefl _)]
   exact hR _ _ (.inr ⟨e,Zew.congr (l':=[]) (m':=⟨9,hs,st,rl,ls,rs⟩) hg (ZZ63 hno),rfl,hc3⟩)
  ·refine hR _ _ (.inl ⟨hs,st,rl,ls,rs,rfl,hg,?_,s2⟩)
   refine hok.2 (Classical.byContradiction fun h=>?_)
   rw[hq.2 h]at h2;cases h2
 unfold Zq.b4
 simp -dsimp[go_sem,y]
 refine Za (fun h2=>?_) (fun h2=>?_)<;>simp at h2
 ·have mg:∀w',Chg noB w1 w'→(Instr.lookup 98 D.lm (.string st) false).run Tryz.prog w' = .ok (.int .i64 (cnt ls st)) w':=fun w' hc=>(s0.old hc).mapGet mStr 5 rfl st hst
  have mg2:=mg _ (Chg.refl noB w1).drew
  simp -dsimp[go_sem,y,mg2]
  refine fin _ ?_ _ (Chg.refl noB w1).drew
  rw[Zhs]at h2
  have:=Zvf ls st
  simp[h2,this]
 ·refine fin false ?_ _ (Chg.refl noB w1).drew
  rw[Zhs]at h2
  simp[h2]
theorem ZZ199 (s:St F w w [rdC b A c ws e 0 [] noT [] []]):CtE Tryz.prog Zq.id #[.pointer (some ⟨b,0,none⟩)] w (Zxz F w b A c ws e):=by
 refine CtE.intro Zq.enters fun R hR=>Zq.calls R _ w ?_
 unfold Zq.run
 refine Zq.l10_intro _ _ _ (fun w'=>∃i hs st rl ls rs,goM m0 ws=goM ⟨0,hs,st,rl,ls,rs⟩ (ws.drop i)∧St F w w' [rdC b A c ws e i hs st ls rs]) (fun w'=>ws.length-atOf b w')
  ⟨0,[],noT,noT,[],[],rfl,s⟩ ?_
 rintro w2 ⟨i,hs,st,rl,ls,rs,hg,s2⟩ C10 hC10
 obtain ⟨hr2,htx⟩:=Zn0 s2 0 rfl
 have hat:atOf b w2=i:=Zmf hr2
 unfold Zq.b11
 refine Zka s2 hr2 fun w3 s3 hr3=>?_
 rw[show wdV (nowW ws e i) = .agg #[.int .i64 (nowW ws e i).1,.string (nowW ws e i).2.1,.int .i64 (nowW ws e i).2.2] from rfl]
 unfold Zq.b11_1
 rw[Zd0,fWd0,Zb9]
 simp -dsimp[go_sem]
 refine Za (fun h3=>?_) (fun h3=>?_)<;>simp at h3
 ·refine Zuv s3 0 rfl (rl:=rl) h3 (fun w4 i' hs' st' rl' ls' rs' hi hg' s4=>?_) (fun a ha w4 hc=>?_)
  ·obtain ⟨hr4,_⟩:=Zn0 s4 0 rfl
   refine hC10 _ ⟨i',hs',st',rl',ls',rs',hg.trans hg',s4⟩ ?_
   rw[hat,Zmf hr4]
   have:=hr4.le
   omega
  ·exact hR _ _ (.inr ⟨a,Zew.congr hg ha,rfl,hc⟩)
 ·unfold Zq.b2
  refine Zry (X:=pan R) s3 0 rfl (ph:=0) (rl:=rl) (by simp[Zbv,h3]) (Or.inl (by decide)) (fun w4 i1 hs1 st1 rl1 ls1 rs1 hi hg1 s4=>?_) (fun a ha w4 hc=>?_)
  ·refine Zq.l7_intro _ _ _ (fun w'=>∃i hs st rl ls rs,goM m0 ws=goM ⟨9,hs,st,rl,ls,rs⟩ (ws.drop i)∧St F w w' [rdC b A c ws e i hs st ls rs]) (fun w'=>ws.length-atOf b w')
    ⟨i1,hs1,st1,rl1,ls1,rs1,hg.trans hg1,s4⟩ ?_
   clear hg hg1 s4 s3 hr3 s2 hr2 hat h3 hC10 C10 hi
   rintro w5 ⟨j,hs,st,rl,ls,rs,hg,s5⟩ C7 hC7
   obtain ⟨hr5,htx⟩:=Zn0 s5 0 rfl
   have hat:atOf b w5=j:=Zmf hr5
   have c0:=hr5.c0
   have c1:=hr5.c1
   unfold Zq.b8
   simp -dsimp[go_sem,c0,c1]
   refine Za (fun h3=>?_) (fun h3=>?_)<;>simp at h3
   ·refine Zry (X:=pan R) (s5.old (Chg.refl noB w5).drew) 0 rfl (ph:=9) (rl:=rl) (by simp[Zbv]) (Or.inr h3) (fun w6 i' hs' st' rl' ls' rs' hi hg' s6=>?_) (fun a ha w6 hc=>?_)
    ·obtain ⟨hr6,_⟩:=Zn0 s6 0 rfl
     refine hC7 _ ⟨i',hs',st',rl',ls',rs',hg.trans hg',s6⟩ ?_
     rw[hat,Zmf hr6]
     have:=hr6.le
     omega
    ·exact hR _ _ (.inr ⟨a,Zew.congr hg ha,rfl,hc⟩)
   ·have hj:j=ws.length:=by have:=hr5.le;omega
    subst hj
    rw[List.drop_length]at hg
    exact Zzp (s5.old (Chg.refl noB w5).drew) hg hR
  ·exact hR _ _ (.inr ⟨a,Zew.congr hg ha,rfl,hc⟩)
end
end Go.Proofs.YtckbgeedlobfaaaGreatDoor
namespace Go.Proofs.YtckbgeedlobfaaaGreatDoor
open Go.Px Go.Px.Scan Go.Px.Spec Go.RowKit
attribute [-go_sem] Builtin.append_
theorem tyBad (a:Int)(w:World):(Instr.typeAssert (.iface 107 (.agg #[.int .i64 a])) 20 107 true).run Tryz.prog w = .ok (.tuple #[.agg #[.int .i64 a],.bool true]) w:=by
 simp[go_sem,Instr.typeAssert]
theorem ZZ105 {R:EP}{w:World}{x0:Value}(h:R (.returned (.agg #[x0])) w):Rec1.b1 R x0 .nilIface w:=by
 unfold Rec1.b1
 simp -dsimp[go_sem]
 exact h
theorem ZZ83 {R:EP}{w:World}{q:Nat}{a:Int}{u:Value}(hq:w.cell? ⟨q,0,none⟩=some u)(hf:w.frozen? ⟨q,0,none⟩=false)
  (h:∀w',Chg noB w w'→R (.returned (.tuple #[.pointer (some ⟨q,0,none⟩)])) (w'.setCell ⟨q,0,none⟩ (.int .i64 a))):Rec1.b1 R (.pointer (some ⟨q,0,none⟩)) (.iface 107 (.agg #[.int .i64 a])) w:=by
 have hlt:=World.block_lt_of_cell? w _ hq
 have hc:Chg noB w (w.alloc (.cells #[.int .i64 a] 107)):=(Chg.refl _ _).alloc _
 unfold Rec1.b1
 simp -dsimp[go_sem,tyBad]
 have h1:=(hc.cell (p:=⟨q,0,none⟩) hlt id).trans hq
 have h2:=(hc.frozen (p:=⟨q,0,none⟩) hlt id).trans hf
 revert h1 h2 hc
 generalize w.alloc (.cells #[.int .i64 a] 107)=w'
 intro hc h1 h2
 simp -dsimp[go_sem,h1,h2]
 exact h w' hc
theorem ZZ136 {P:Program}{c₀:Frame}{cs:List Frame}{a:Int}(h:c₀.mode = .panicking (badP a)):recoverD (c₀::cs)=some (.iface 107 (.agg #[.int .i64 a]),{c₀ with mode := .panicking [{v := .iface 107 (.agg #[.int .i64 a]),recovered:=true }] }::cs):=by
 simp[recoverD,h,badP]
theorem ZZ23 {c₀:Frame}{cs:List Frame}(h:c₀.mode = .returning):recoverD (c₀::cs)=none:=by
 simp[recoverD,h]
theorem Zzt {tm:Array Value}{R:EP}{x0 x1:Value}{w:World}(hsz:tm.size=Tryz.f46.ntmps)(h0:tm.getD 0 undef=x0)(h1:tm.getD 1 undef=x1)(h:Rec1.b1 R x0 x1 w) :
  Rec1.code.wp Tryz.prog (post (pan R) Tryz.f46.ntmps (Rec1.q1 R) []) {tmps:=tm,defers:=[] } w :=
 Rec1.part_wp (ρ:=fun n=>tm.getD n undef) ⟨hsz,fun _=>rfl,rfl⟩ (by
  show Rec1.b1 R (tm.getD 0 undef) (tm.getD 1 undef) w
  rw[h0,h1];exact h)
theorem Zu0 {n:Nat}{w:World}{q:Nat}{u:FrameMode}{R:Ending→FrameMode→World→Prop}{a:Int}{v0:Value}(hq:w.cell? ⟨q,0,none⟩=some v0)(hf:w.frozen? ⟨q,0,none⟩=false)
  (hu:u = .returning∧R (.returned (.tuple #[])) .returning w ∨
   u = .panicking (badP a)∧∀w',Chg noB w w'→R (.returned (.tuple #[])) (.panicking [{v := .iface 107 (.agg #[.int .i64 a]),recovered:=true }]) (w'.setCell ⟨q,0,none⟩ (.int .i64 a))) :
  CallsDIn Fence.wide n Tryz.prog Zuk.id #[.pointer (some ⟨q,0,none⟩)] u w R:=by
 refine callsDIn_of_wpSIn Tryz.func46 rfl trivial fun c₀ cs hc=>?_
 refine wpSIn_seq (wpSIn_region ?_)
 simp[wpOpsSIn,Region.wanted,execOp,go_sem]
 rcases hu with ⟨rfl,hR⟩|⟨rfl,hR⟩
 ·rw[ZZ23 hc]
  show Code.wpSIn Fence.wide n Tryz.prog Rec1.code _ _ _ _
  refine wpSIn_of_wpIn rfl (wpIn_wide.2 (wp_mono (Zzt (R:=fun e w'=>e = .returned (.agg #[.pointer (some ⟨q,0,none⟩)])∧w'=w) (by simp) (by simp[Array.getD]) (by simp[Array.getD]) (ZZ105 ⟨rfl,rfl⟩)) ?_))
  rintro e a' w' h
  cases e with
  | normal=>obtain ⟨ρ,_,h,_⟩:=h;cases h
  | ret=>
   obtain ⟨ρ,hr,h,rfl⟩:=h
   exact ⟨hr.defers,.returning,by rw[←hc],.tuple #[],by rw[results_none rfl],hR⟩
  | panic ch=>obtain ⟨_,h,_⟩:=h;cases h
  | exit k=>obtain ⟨_,_,h⟩:=h;exact h.elim
  | goto k=>obtain ⟨_,_,h⟩:=h;exact h.elim
  | outgrown=>obtain ⟨_,_,h⟩:=h;exact h.elim
 ·rw[ZZ136 (P:=Tryz.prog) hc]
  show Code.wpSIn Fence.wide n Tryz.prog Rec1.code _ _ _ _
  refine wpSIn_of_wpIn rfl (wpIn_wide.2 (wp_mono (Zzt (R:=fun e w''=>e = .returned (.tuple #[.pointer (some ⟨q,0,none⟩)])∧∃w',Chg noB w w'∧w''=w'.setCell ⟨q,0,none⟩ (.int .i64 a)) (by simp) (by simp[Array.getD]) (by simp[Array.getD]) (ZZ83 hq hf fun w' hc'=>⟨rfl,w',hc',rfl⟩)) ?_))
  rintro e a' w' h
  cases e with
  | normal=>
   obtain ⟨ρ,hr,h,w1,hc1,rfl⟩:=h
   exact ⟨hr.defers,_,rfl,.tuple #[],by rw[results_none rfl],hR _ hc1⟩
  | ret=>obtain ⟨ρ,_,h,_⟩:=h;cases h
  | panic ch=>obtain ⟨_,h,_⟩:=h;cases h
  | exit k=>obtain ⟨_,_,h⟩:=h;exact h.elim
  | goto k=>obtain ⟨_,_,h⟩:=h;exact h.elim
  | outgrown=>obtain ⟨_,_,h⟩:=h;exact h.elim
end Go.Proofs.YtckbgeedlobfaaaGreatDoor
namespace Go.Px
open Go.RowKit
theorem St.oneF {F:Nat→Prop}{w:World}{c:Ch}(h:c.ok w F)(hF:∀i,F i→i<w.heap.size):St F w w [c]:=by
 classical
 refine St.enter ⟨fun i=>if F i then 1 else 0,fun i hi=>?_,fun k d hk=>?_⟩
 ·by_cases hf:F i
  ·exact ⟨hf,hF i hf⟩
  ·simp[hf]at hi
 ·match k,hk with
  | 0,hk=>
   injection hk with hk;subst hk
   exact c.keep h (Chg.refl noB w) (fun _ _ _=>id) (fun i _ hi=>by simp[hi])
  | k+1,hk=>simp at hk
theorem ZZ37 {F:Nat→Prop}{w:World}{c:Ch}(h:Zhd [c] w F):c.ok w F:=by
 obtain ⟨T,hT,hk⟩:=h
 exact c.keep (hk 0 c rfl) (Chg.refl noB w) (fun _ _ _=>id) (fun i _ hi=>(hT i (by omega)).1)
end Go.Px
namespace Go.Proofs.YtckbgeedlobfaaaGreatDoor
open Go.Px Go.Px.Scan Go.Px.Spec Go.RowKit
attribute [-go_sem] Builtin.append_
section
variable {G:Nat→Prop} {W w w1:World} {L:List Ch} {X:Pan} {K:Value→World→Prop} {b:Nat} {A:Option Addr} {c:Nat} {ws:List Wd} {e:Int}
end
end Go.Proofs.YtckbgeedlobfaaaGreatDoor
namespace Go.Proofs.YtckbgeedlobfaaaGreatDoor
open Go.Px Go.Px.Scan Go.Px.Spec Go.RowKit
attribute [-go_sem] Builtin.append_
section
variable {G:Nat→Prop} {W w w1:World} {R:EP} {b q2 q3 q6:Nat} {A:Option Addr} {c:Nat} {ws:List Wd} {e:Int} {code bad:Int} {v6:Value} {L:List Ch}
theorem ZZ143 (s:St G W w L)(k:Nat)(hk:L[k]?=some (rdC b A c ws e 0 [] noT [] [])):CtE Tryz.prog Zq.id #[.pointer (some ⟨b,0,none⟩)] w fun r w'=>
  (∃hs st rl ls rs,r = .returned (.tuple #[])∧goM m0 ws=(⟨9,hs,st,rl,ls,rs⟩,[])∧Zet ⟨9,hs,st,rl,ls,rs⟩=true∧St G W w' (L.set k (rdC b A c ws e ws.length hs st ls rs))) ∨
  (∃a,Zew e m0 ws a∧r = .panicked (badP a)∧St G W w' (L.set k Ch.emp)):=by
 obtain ⟨F,ho,hF,hs'⟩:=s.opn hk
 refine (ZZ199 (St.oneF ho fun i hi=>(hF i hi).1)).mono ?_
 rintro r w' (⟨hs,st,rl,ls,rs,rfl,h1,h2,h3⟩|⟨a,ha,rfl,hc⟩)
 ·exact .inl ⟨hs,st,rl,ls,rs,rfl,h1,h2,hs' w' _ h3.chg (ZZ37 h3.leave)⟩
 ·exact .inr ⟨a,ha,rfl,hs' w' Ch.emp hc trivial⟩
theorem ZZ121 {c0:Ch}(s2:St G W w ([c0,boxC q2 75 [.pointer (some ⟨b,0,none⟩)],boxC q3 3 [.int .i64 0],boxC q6 36 [.int .i64 code,.int .i64 bad,v6]]++L))
  (hR:∀w',St G W w' ([c0,boxC q2 75 [.pointer (some ⟨b,0,none⟩)],boxC q3 3 [.int .i64 (if code=0 then -1 else bad)],boxC q6 36 [.int .i64 code,.int .i64 bad,v6]]++L)→R (.returned (.agg #[.pointer (some ⟨q2,0,none⟩),.pointer (some ⟨q3,0,none⟩)])) w') :
  RdF.b1 R (.pointer (some ⟨q2,0,none⟩)) (.pointer (some ⟨q3,0,none⟩)) (.pointer (some ⟨q6,0,none⟩)) w:=by
 obtain ⟨y2,yf2,_⟩:=s2.box 1 rfl
 obtain ⟨y3,yf3,_⟩:=s2.box 2 rfl
 obtain ⟨y6,yf6,_⟩:=s2.box 3 rfl
 simp[Zp]at y2 y3 y6
 have f2:=yf2 0
 have f3:=yf3 0
 unfold RdF.b1
 simp -dsimp[go_sem,y6]
 refine Za (fun h3=>?_) (fun h3=>?_)<;>simp at h3
 ·have s3:=s2.set 1 rfl 0 (.pointer (some ⟨b,0,none⟩))
  have k3:=(s3.box 2 rfl).1.1
  have s4:=(s3.set 2 rfl 0 (.int .i64 bad)).old (Chg.refl noB _).drew
  unfold RdF.b1_1
  simp -dsimp[go_sem,y2,y6,f2]
  rw[k3]
  simp -dsimp[go_sem,f3]
  refine hR _ ?_
  rw[if_neg h3]
  exact s4
 ·have s3:=s2.set 1 rfl 0 (.pointer (some ⟨b,0,none⟩))
  have k3:=(s3.box 2 rfl).1.1
  have s4:=s3.set 2 rfl 0 (.int .i64 (-1))
  unfold RdF.b1_2
  simp -dsimp[go_sem,y2,f2]
  rw[k3]
  simp -dsimp[go_sem,f3]
  refine hR _ ?_
  rw[if_pos h3]
  exact s4
end
end Go.Proofs.YtckbgeedlobfaaaGreatDoor
namespace Go.Proofs.YtckbgeedlobfaaaGreatDoor
open Go.Px Go.Px.Scan Go.RowKit
theorem ZZ10 {w:World}{b B n l:Nat}{s:ByteArray}{J Jx:List Wd→World→Prop}
  (hJ:∀pre A A',n≤A.heap.size→J pre A→Chg (fun i=>n≤i∧i<n+1) A A'→J pre A') (hJx:∀pre A A',n≤A.heap.size→Jx pre A→Chg (fun i=>n≤i∧i<n+1) A A'→Jx pre A')
  (hY:∀pre x W1,n+1≤W1.heap.size→J pre W1→pre++[x] <+: (allS s 0).1→YieldAt Fence.wide 0 Tryz.prog l #[wdV x] W1 fun e W'=>
   (e = .returned (.bool true)∧J (pre++[x]) W'∧Chg (fun i=>B≤i∧¬(n≤i∧i<n+1)) W1 W')∨(e = .returned (.bool false)∧Jx (pre++[x]) W'∧Chg (fun i=>B≤i∧¬(n≤i∧i<n+1)) W1 W'))
  (h:Sc w b s 0) (hO:Ord w B) (hB:B≤n) (hn:n=b) (h0:J [] w) :
  Ct Tryz.prog Zv.id #[.pointer (some ⟨b,0,none⟩),.func (.yield l) #[] #[]] w fun _ w'=>n≤w'.heap.size∧(J (allS s 0).1 w'∨∃pre,pre≠[]∧pre <+: (allS s 0).1∧Jx pre w'):=by
 refine Zv.ct fun R hR=>?_
 have hsz:=h.sz
 have hb:=h.lt
 have hmon:∀{A A'},Chg (·=b) A A'→Chg (fun i=>n≤i∧i<n+1) A A':=fun h=>h.mono fun i _ e=>by omega
 unfold Zv.run Zv.b1
 refine Zv.l5_intro _ _ _ _ (fun w1=>∃j pre,Sc w1 b s j∧J pre w1∧Ord w1 B∧pre++(allS s j).1=(allS s 0).1) (left s b)
  ⟨0,[],h,h0,hO,rfl⟩ ?_
 rintro w1 ⟨j,pre,h1,hi1,hO1,ha1⟩ C hC
 unfold Zv.b6
 refine Zf (Zx9 h1) ?_
 rintro _ w2 ⟨rfl,h2,hc2⟩
 have hlt:=h2.lt
 have hlt1:=h1.lt
 have hi2:=hJ _ _ _ (by omega) hi1 (hmon hc2)
 have hO2:=hO1.chg hc2 (by omega) (fun i hi e=>by omega)
 refine Za (fun h3=>?_) (fun h3=>?_)<;>simp at h3
 ·refine Zf (ZZ49 h2 h3 hO2 (by omega)) ?_
  rintro v w3 ⟨hn',hc3⟩
  have hi3:=hJ _ _ _ (by omega) hi2 (hmon hc3)
  have hO3:=hO2.chg hc3 (by omega) (fun i hi e=>by omega)
  unfold Zlo at hn'
  cases h4:oneS s (Zb7 s false j) with
  | bad k=>
   rw[h4]at hn'
   obtain ⟨⟨kd,t,at',rfl⟩,h5⟩:=hn'
   have hlt3:=h5.lt
   rw[Zlj h3 h4]at ha1
   simp[go_sem,World.cell?_alloc_lt,h5.lt,h5.c1]
   have hc4:Chg (fun i=>n≤i∧i<n+1) w3 (w3.alloc (Obj.cells #[Value.int IntKind.i64 kd,Value.string t,Value.int IntKind.i64 at'] 73)):=(Chg.refl _ _).alloc _
   refine hR _ _ ⟨by simp;omega,Or.inl ?_⟩
   rw[←ha1];simpa using hJ _ _ _ (by omega) hi3 hc4
  | word kd a e k=>
   rw[h4]at hn'
   obtain ⟨rfl,h5⟩:=hn'
   have hlt3:=h5.lt
   rw[Zhn h3 h4]at ha1
   simp[go_sem]
   have hc4:Chg (fun i=>n≤i∧i<n+1) w3 (w3.alloc (Obj.cells #[Value.int IntKind.i64 kd,Value.string (s.extract a e),Value.int IntKind.i64 (Zb7 s false j)] 73)):=(Chg.refl _ _).alloc _
   have hc40:Chg (fun _=>False) w3 (w3.alloc (Obj.cells #[Value.int IntKind.i64 kd,Value.string (s.extract a e),Value.int IntKind.i64 (Zb7 s false j)] 73)):=(Chg.refl _ _).alloc _
   have h6:=h5.chg hc40 id
   have hO4:=hO3.chg hc40 (by omega) (fun _ _=>id)
   have hi4:=hJ _ _ _ (by omega) hi3 hc4
   generalize w3.alloc (Obj.cells #[Value.int IntKind.i64 kd,Value.string (s.extract a e),Value.int IntKind.i64 (Zb7 s false j)] 73)=w4 at *
   have hlt4:=h6.lt
   refine Zub (hY pre ((kd:Int),s.extract a e,(Zb7 s false j:Int)) w4 (by omega) hi4 ?_) ?_
   ·rw[←ha1];exact ⟨(allS s k).1,by simp⟩
   ·rintro _ w5 (⟨rfl,hi5,hc5⟩|⟨rfl,hi5,hc5⟩)
    ·refine ⟨_,rfl,?_⟩
     simp[go_sem]
     have h7:=h6.chg hc5 (by omega)
     have hone:=Zht h3 h4
     refine hC _ ⟨k,pre++[((kd:Int),s.extract a e,(Zb7 s false j:Int))],h7,hi5,hO4.chg hc5 (by omega) (fun i hi h=>by omega),?_⟩ ?_
     ·rw[←ha1];simp
     ·rw[h7.left,h1.left]
      have:=Zqd s false j
      omega
    ·refine ⟨_,rfl,?_⟩
     have h7:=h6.chg hc5 (by omega)
     have hlt7:=h7.lt
     simp[go_sem]
     unfold Zv.b3
     refine hR _ _ ⟨by omega,Or.inr ⟨_,by simp,?_,hi5⟩⟩
     rw[←ha1];exact ⟨(allS s k).1,by simp⟩
 ·unfold Zv.b3
  rw[Zjo (by omega)]at ha1
  refine hR _ _ ⟨by omega,Or.inl ?_⟩
  rw[←ha1];simpa using hi2
theorem Zx6 {w:World}{p B:Nat}{s:ByteArray}(hp:w.cell? ⟨p,0,none⟩=some (.string s))(hs:s.size≤maxLen)(hO:Ord w B)(hB:B≤w.heap.size) :
  SeqC Tryz.prog Zcn.id #[.pointer (some ⟨p,0,none⟩)] (fun x:Wd=>#[wdV x]) B 1 (fun xs=>xs=(allS s 0).1) (fun pre=>pre≠[]∧pre <+: (allS s 0).1) (fun pre=>pre <+: (allS s 0).1) w:=by
 intro l J Jx W hW hJ hJx hY h0
 have hWs:=hW.size
 have hp':=hW.at hp id
 have hO':=hO.chg hW hB (fun _ _=>id)
 refine Calls.mono (R:=RT fun _ w'=>W.heap.size≤w'.heap.size∧(J (allS s 0).1 w'∨∃pre,pre≠[]∧pre <+: (allS s 0).1∧Jx pre w')) (Zcn.ct fun R hR=>?_).2 ?_
 ·unfold Zcn.run Zcn.b1
  simp[go_sem,hp']
  generalize hw1:W.alloc (Obj.cells #[Value.string s,Value.int IntKind.i64 0] 70)=w1
  have hc:Chg (fun _=>False) W w1:=by rw[←hw1];exact (Chg.refl _ _).alloc _
  have hsc:Sc w1 W.heap.size s 0:=by
   rw[←hw1]
   exact ⟨Zck _ _ _ rfl 0,Zck _ _ _ rfl 1,Zcs _ _ _ rfl 1,Nat.zero_le _,hs⟩
  clear hw1
  refine Zf (ZZ10 hJ hJx hY hsc (hO'.chg hc (by omega) (fun _ _=>id)) (by omega) rfl (hJ _ _ _ (Nat.le_refl _) h0 (hc.mono fun _ _ h=>h.elim))) ?_
  rintro _ w2 h2
  exact hR _ _ h2
 ·intro e w' he
  cases e with
  | returned v=>
   obtain ⟨h1,h2|⟨pre,h3,h4,h5⟩⟩:=he
   ·exact ⟨⟨v,rfl⟩,h1,Or.inl ⟨_,rfl,h2⟩⟩
   ·exact ⟨⟨v,rfl⟩,h1,Or.inr ⟨pre,⟨h3,h4⟩,h5⟩⟩
  | _=>exact he.elim
end Go.Proofs.YtckbgeedlobfaaaGreatDoor
namespace Go.Proofs.YtckbgeedlobfaaaGreatDoor
open Go.Px Go.Px.Scan Go.Px.Spec Go.RowKit
attribute [-go_sem] Builtin.append_
section
variable {w w1:World} {R:EP}
theorem ZZ215 {s:ByteArray}(hR:∀w' q2 q3,St noB w w' [boxC q2 75 [.pointer none],boxC q3 3 [.int .i64 0]]→R (.returned (.tuple #[.string s,.pointer (some ⟨q2,0,none⟩),.pointer (some ⟨q3,0,none⟩)])) w'):RdA.b1 R (.string s) w:=by
 unfold RdA.b1
 have s1:=(St.refl noB w).alloc #[.pointer none] 75
 have s2:=s1.alloc #[.int .i64 0] 3
 simp -dsimp[go_sem]
 simp at s2
 exact hR _ _ _ s2
theorem bRd (m l:Nat)(n:Int)(w:World):(Instr.build 102 #[(3,.map (some m)),(6,.map (some l)),(2,.int .i64 n)]).run Tryz.prog w = .ok (.agg #[.slice none 0 0,.int .i64 0,.int .i64 n,.map (some m),.slice none 0 0,.string ⟨#[]⟩,.map (some l),.slice none 0 0]) w:=by simp[go_sem]
attribute [go_sem ↓] bRd
theorem ZZ196 (w:World):(Instr.makeMap 98 none).run Tryz.prog w = .ok (.map (some w.heap.size)) (w.alloc (.map #[] 0)):=by
 simp[Instr.makeMap,run_underlying Tryz.underlying98,go_sem]
attribute [go_sem ↓] ZZ196
theorem ZZ270 {b:Nat}{e:Int}{km lm:Nat}(h:St noB w1 w [mapC Tryz.prog kStr 9 3 (.map (some km)) 0 (fun _=>0),mapC Tryz.prog kStr 9 3 (.map (some lm)) 0 (fun _=>0),boxC b 102 [.slice none 0 0,.int .i64 0,.int .i64 e,.map (some km),.slice none 0 0,.string ⟨#[]⟩,.map (some lm),.slice none 0 0]]) :
  St noB w1 w [rdC b none 0 [] e 0 [] noT [] []]:=by
 have h1:=(((h.nilRow 73 3).nilRow 118 2).nilRow 124 4)
 have h2:=(h1.push (c:=Zeg 9 1 [] []) ⟨rfl,fun i v xs hv=>by simp at hv⟩).push (c:=Zeg 73 3 [] []) ⟨rfl,fun i v xs hv=>by simp at hv⟩
 have h3:=(h2.pick [2,3,0,4,6,1,5,7] (L':=rdL b none 0 [] e 0 [] noT [] [] ⟨.map (some km),0,none,0,[],.map (some lm),0,none,0,[]⟩) (by decide) rfl).group
 exact h3.turn (k:=0) (d:=rdC b none 0 [] e 0 [] noT [] []) rfl fun F ho=>⟨_,⟨⟨Nat.le_refl _,Nat.zero_le _,Nat.le_refl _,Nat.le_refl _,Nat.le_refl _,Nat.le_refl _,Nat.le_refl _,⟨_,rfl⟩,⟨_,rfl⟩,fun x hx=>by simp at hx⟩,Nat.zero_le _⟩,ho⟩
theorem ZZ273 {s:ByteArray}{q2 q3:Nat}(hs:s.size≤maxLen)(s0:St noB w w1 [boxC q2 75 [.pointer none],boxC q3 3 [.int .i64 0]])
  (hR:∀w' b,St noB w w' [boxC q2 75 [.pointer (some ⟨b,0,none⟩)],boxC q3 3 [.int .i64 0],rdC b none 0 [] s.size 0 [] noT [] []]→R (.returned (.tuple #[.string s,.pointer (some ⟨q2,0,none⟩),.pointer (some ⟨q3,0,none⟩)])) w') :
  RdB.b1 R (.string s) (.pointer (some ⟨q2,0,none⟩)) (.pointer (some ⟨q3,0,none⟩)) w1:=by
 unfold RdB.b1
 simp -dsimp[go_sem]
 have h3:=ZZ270 ((((St.refl noB w1).map Tryz.prog kStr 9 3).map Tryz.prog kStr 9 3).alloc #[.slice none 0 0,.int .i64 0,.int .i64 s.size,.map (some w1.heap.size),.slice none 0 0,.string ⟨#[]⟩,.map (some (w1.alloc (.map #[] 0)).heap.size),.slice none 0 0] 102)
 have h4:=s0.seq h3
 simp at h4
 obtain ⟨y,yf,yb⟩:=h4.box 0 rfl
 simp[Zp]at y
 have f0:=yf 0
 revert h4 y f0
 clear h3 yf yb
 generalize (((w1.alloc (.map #[] 0)).alloc (.map #[] 0)).alloc _)=w2
 generalize w1.heap.size+1+1=b
 intro h4 y f0
 simp -dsimp[go_sem,y,f0]
 exact hR _ _ (h4.set 0 rfl 0 (.pointer (some ⟨b,0,none⟩)))
theorem Zqe {L:List Ch}{G:Nat→Prop}{W:World}{b:Nat}{A:Option Addr}{c:Nat}{ws:List Wd}{e:Int}{i:Nat}{hs:List (Nat×List ByteArray)}{st:ByteArray}{ls:List ByteArray}{rs:List RowS}
  (h:St G W w (L++[rdC b A c ws e i hs st ls rs])):∃D,Rb ws i hs ls rs D∧st.size≤maxLen∧St G W w (L++rdL b A c ws e i hs st ls rs D):=by
 obtain ⟨D,h1⟩:=h.unex (f:=fun D:RD=>Ch.fact (Rb ws i hs ls rs D∧st.size≤maxLen) (Ch.all (rdL b A c ws e i hs st ls rs D))) L.length (by simp;rfl)
 obtain ⟨⟨hB,hst⟩,h2⟩:=h1.unfact (p:=Rb ws i hs ls rs D∧st.size≤maxLen) (c:=Ch.all (rdL b A c ws e i hs st ls rs D)) L.length (by simp)
 refine ⟨D,hB,hst,St.flat ?_⟩
 simpa using h2
theorem Zsu {L:List Ch}{G:Nat→Prop}{W:World}{b:Nat}{A:Option Addr}{c:Nat}{ws:List Wd}{e:Int}{i:Nat}{hs:List (Nat×List ByteArray)}{st:ByteArray}{ls:List ByteArray}{rs:List RowS}{D:RD}
  (h:St G W w (L++rdL b A c ws e i hs st ls rs D)) (hB:Rb ws i hs ls rs D) (hst:st.size≤maxLen):St G W w (L++[rdC b A c ws e i hs st ls rs]):=by
 have h1:=h.unflat.turn (k:=L.length) (c:=Ch.all (rdL b A c ws e i hs st ls rs D)) (d:=rdC b A c ws e i hs st ls rs) (by simp) fun F ho=>⟨D,⟨hB,hst⟩,ho⟩
 simpa using h1
theorem ZZ256 {q2:Nat}{x:Wd}(hR:∀w' q4,St noB w w' [boxC q4 73 [.int .i64 x.1,.string x.2.1,.int .i64 x.2.2]]→R (.returned (.tuple #[.pointer (some ⟨q2,0,none⟩),.pointer (some ⟨q4,0,none⟩)])) w') :
  RdAsg.b1 R (.pointer (some ⟨q2,0,none⟩)) (wdV x) w:=by
 have s1:=(St.refl noB w).alloc #[.int .i64 x.1,.string x.2.1,.int .i64 x.2.2] 73
 unfold RdAsg.b1
 rw[show wdV x = .agg #[.int .i64 x.1,.string x.2.1,.int .i64 x.2.2] from rfl]
 simp -dsimp[go_sem]
 exact hR _ _ s1
theorem ZZ86 {G:Nat→Prop}{W:World}{q2 q3 q4 b c:Nat}{A:Option Addr}{pre:List Wd}{e:Int}{x:Wd}{v3:Value}(hx:x.2.1.size≤maxLen)(hl:pre.length<10000)
  (s:St G W w [boxC q2 75 [.pointer (some ⟨b,0,none⟩)],boxC q3 3 [v3],boxC q4 73 [.int .i64 x.1,.string x.2.1,.int .i64 x.2.2],rdC b A c pre e 0 [] noT [] []])
  (hR:∀w' A' c',St G W w' [boxC q2 75 [.pointer (some ⟨b,0,none⟩)],boxC q3 3 [v3],boxC q4 73 [.int .i64 x.1,.string x.2.1,.int .i64 x.2.2],rdC b A' c' (pre++[x]) e 0 [] noT [] []]→R (.returned (.bool true)) w') :
  RdBody.b1 R (.pointer (some ⟨q2,0,none⟩)) (.pointer (some ⟨q4,0,none⟩)) w:=by
 obtain ⟨D,hB,hst,s1⟩:=Zqe (L:=[boxC q2 75 [.pointer (some ⟨b,0,none⟩)],boxC q3 3 [v3],boxC q4 73 [.int .i64 x.1,.string x.2.1,.int .i64 x.2.2]]) s
 have y2:=(s1.box 0 rfl).1
 have y4:=(s1.box 2 rfl).1
 have yr:=(s1.box 3 rfl).1
 simp[Zp,Zea]at y2 y4 yr
 unfold RdBody.b1
 obtain ⟨wa,hwa⟩:∃wa,w.alloc (.cells #[.int .i64 x.1,.string x.2.1,.int .i64 x.2.2] 73)=wa:=⟨_,rfl⟩
 have ca:Chg noB w wa:=by rw[←hwa];exact (Chg.refl noB w).alloc _
 have sa:=s1.old ca
 have a2:=(sa.box 0 rfl).1.1
 have ar:=(sa.box 3 rfl).1.1
 generalize hap:Builtin.append_=ap
 simp -dsimp[go_sem,y2,y4,yr,hwa,a2,ar]
 rw[←hap,←hwa]
 refine s1.append1d 4 rfl uWds iWd rfl (by omega) (news:=[.int .i64 x.1,.string x.2.1,.int .i64 x.2.2]) rfl (by simp[Value.oneCell']) (by unfold maxLen;omega) (by unfold Zr;omega) ?_
 intro g cap w3 s3
 have b2:=(s3.box 0 rfl).1.1
 have br:=(s3.box 3 rfl).1.1
 have fr:=(s3.box 3 rfl).2.1 0
 simp -dsimp[go_sem,b2,br,fr]
 have s4:=s3.set 3 rfl 0 (.slice (some ⟨g,0,none⟩) (pre.length+1) cap)
 refine hR _ (some ⟨g,0,none⟩) cap ?_
 refine Zsu (D:=D) (L:=[boxC q2 75 [.pointer (some ⟨b,0,none⟩)],boxC q3 3 [v3],boxC q4 73 [.int .i64 x.1,.string x.2.1,.int .i64 x.2.2]]) ?_ ⟨Nat.zero_le _,by simp;omega,hB.kc,hB.lc,hB.hs,hB.rs,hB.ls,hB.km,hB.lm,fun y hy=>?_⟩ hst
 ·simpa[rdL,Zea,encW]using s4
 ·rcases List.mem_append.1 hy with hy|hy
  ·exact hB.tx y hy
  ·simp at hy;rw[hy];exact hx
end
end Go.Proofs.YtckbgeedlobfaaaGreatDoor
namespace Go.Px.Scan
open Go.Px
def short (s:ByteArray):ByteArray:=if 8192<s.size then ⟨#[]⟩ else s
theorem ZZ130 {s:ByteArray}:(short s).size≤maxLen:=by
 unfold short;split
 ·decide
 ·unfold maxLen;omega
theorem Zm9 (s:ByteArray):(allS (short s) 0).1=(Zah s).1:=by
 unfold short Zah
 split
 ·decide +kernel
 ·rfl
theorem Zrk (s:ByteArray):(Zah s).1.length≤8192:=by
 unfold Zah;split
 ·simp
 ·have:=Zym s 0 (Nat.zero_le _);omega
theorem ZZ366 (s:ByteArray)(i:Nat):∀x∈(allS s i).1,x.2.1.size≤s.size:=by
 induction i using allS.induct s with
 | case1 i h k h1=>intro x hx;rw[Zlj h h1]at hx;simp at hx
 | case2 i h kd a b n h1 ih=>
  intro x hx
  rw[Zhn h h1]at hx
  rcases List.mem_cons.1 hx with rfl|hx
  ·simp;omega
  ·exact ih x hx
 | case3 i h=>intro x hx;rw[Zjo h]at hx;simp at hx
theorem ZZ114 (s:ByteArray)(hs:s.size≤maxLen):∀x∈(Zah s).1,x.2.1.size≤maxLen:=by
 intro x hx
 unfold Zah at hx
 split at hx
 ·simp at hx
 ·exact Nat.le_trans (ZZ366 s 0 x hx) hs
def Zjf (s:ByteArray):Int:=if (Zah s).2=none then 0 else 10
def mat (s:ByteArray):Int:=match (Zah s).2 with | some k=>k | none=>0
def endS (s:ByteArray):Int:=match (Zah s).2 with | some k=>k | none=>s.size
end Go.Px.Scan
namespace Go.Proofs.YtckbgeedlobfaaaGreatDoor
open Go.Px Go.Px.Scan Go.Px.Spec Go.RowKit
attribute [-go_sem] Builtin.append_
theorem ZZ233 (s:ByteArray)(w:World):Ct Tryz.prog Zey.id #[.string s] w fun v w'=>v = .func (.func Zcn.id) #[] #[.pointer (some ⟨w.heap.size,0,none⟩)]∧w.alloc (.cells #[.string (short s)] 9)=w':=by
 refine Zey.ct fun R hR=>?_
 unfold Zey.run Zey.b1
 simp[go_sem]
 refine Za (fun h=>?_) (fun h=>?_)<;>simp at h
 ·have h':8192<s.size:=by omega
  simp[go_sem]
  unfold Zey.b2
  simp[go_sem]
  refine hR _ _ ⟨rfl,?_⟩
  unfold short;rw[if_pos h']
 ·have h':¬8192<s.size:=by omega
  unfold Zey.b2
  simp[go_sem]
  refine hR _ _ ⟨rfl,?_⟩
  unfold short;rw[if_neg h']
section
variable {w w1:World} {R:EP} {G:Nat→Prop} {L:List Ch}
theorem ZZ214 {s:ByteArray}{q2:Nat}{v3:Value}(hR:R (.returned (.tuple #[.string s,.pointer (some ⟨q2,0,none⟩),v3,.func (.func Zcn.id) #[] #[.pointer (some ⟨w.heap.size,0,none⟩)]])) (w.alloc (.cells #[.string (short s)] 9))) :
  RdC.b1 R (.string s) (.pointer (some ⟨q2,0,none⟩)) v3 w:=by
 unfold RdC.b1
 refine Zf (ZZ233 s w) ?_
 rintro _ _ ⟨rfl,rfl⟩
 exact hR
theorem ZZ225 {s:ByteArray}{B:Nat}{v2 v3:Value}(hs:s.size≤maxLen)(hO:Ord w B)(hB:B≤w.heap.size)(h:St noB w1 w L)
  (hR:∀w' q6,St noB w1 w' (L++[boxC q6 36 [.int .i64 (Zjf s),.int .i64 (mat s),.slice none 0 0]])→R (.returned (.tuple #[v2,v3,.pointer (some ⟨q6,0,none⟩)])) w') :
  RdD.b1 R (.string s) v2 v3 w:=by
 unfold RdD.b1
 refine Zf (Zu3 hs hO hB) ?_
 rintro v w2 ⟨hv,hc⟩
 have hs2:=(h.old hc).alloc #[.int .i64 (Zjf s),.int .i64 (mat s),.slice none 0 0] 36
 have:∃sl,v = .tuple #[sl,.agg #[.int .i64 (Zjf s),.int .i64 (mat s),.slice none 0 0]]:=by
  unfold Zo3 at hv
  unfold Zjf mat
  cases hb:(Zah s).2 with
  | some k=>rw[hb]at hv;exact ⟨_,by rw[hv];rfl⟩
  | none=>rw[hb]at hv;obtain ⟨sl,hv,_⟩:=hv;exact ⟨sl,by rw[hv];rfl⟩
 obtain ⟨sl,rfl⟩:=this
 unfold RdD.b1_1
 simp -dsimp[go_sem]
 exact hR _ _ hs2
theorem ZZ278 {s:ByteArray}{q2 q3 q6 b c:Nat}{A:Option Addr}{ws:List Wd}{d:Ch}
  (h:St noB w1 w [boxC q2 75 [.pointer (some ⟨b,0,none⟩)],boxC q3 3 [.int .i64 0],rdC b A c ws s.size 0 [] noT [] [],d,boxC q6 36 [.int .i64 (Zjf s),.int .i64 (mat s),.slice none 0 0]])
  (hR:∀w',St noB w1 w' [rdC b A c ws (endS s) 0 [] noT [] [],boxC q2 75 [.pointer (some ⟨b,0,none⟩)],boxC q3 3 [.int .i64 0],boxC q6 36 [.int .i64 (Zjf s),.int .i64 (mat s),.slice none 0 0],d] →
   R (.returned (.tuple #[.pointer (some ⟨q2,0,none⟩),.pointer (some ⟨q3,0,none⟩),.pointer (some ⟨q6,0,none⟩)])) w') :
  RdE.b1 R (.pointer (some ⟨q2,0,none⟩)) (.pointer (some ⟨q3,0,none⟩)) (.pointer (some ⟨q6,0,none⟩)) w:=by
 have h:=h.pick [0,1,4,3,2] (L':=[boxC q2 75 [.pointer (some ⟨b,0,none⟩)],boxC q3 3 [.int .i64 0],boxC q6 36 [.int .i64 (Zjf s),.int .i64 (mat s),.slice none 0 0],d]++[rdC b A c ws s.size 0 [] noT [] []]) (by decide) rfl
 have fin:∀w',St noB w1 w' ([boxC q2 75 [.pointer (some ⟨b,0,none⟩)],boxC q3 3 [.int .i64 0],boxC q6 36 [.int .i64 (Zjf s),.int .i64 (mat s),.slice none 0 0],d]++[rdC b A c ws (endS s) 0 [] noT [] []])→R (.returned (.tuple #[.pointer (some ⟨q2,0,none⟩),.pointer (some ⟨q3,0,none⟩),.pointer (some ⟨q6,0,none⟩)])) w' :=
  fun w' s'=>hR w' (s'.pick [4,0,1,2,3] (by decide) rfl)
 have y6:=(h.box 2 rfl).1
 have y2:=(h.box 0 rfl).1
 simp[Zp]at y6 y2
 unfold RdE.b1
 simp -dsimp[go_sem,y6]
 refine Za (fun h1=>?_) (fun h1=>?_)<;>simp at h1
 ·have e1:mat s=endS s:=by
   unfold Zjf at h1;unfold mat endS
   cases hb:(Zah s).2 with
   | none=>rw[hb]at h1;simp at h1
   | some k=>rfl
  obtain ⟨D,hB,hst,s1⟩:=Zqe (L:=[boxC q2 75 [.pointer (some ⟨b,0,none⟩)],boxC q3 3 [.int .i64 0],boxC q6 36 [.int .i64 (Zjf s),.int .i64 (mat s),.slice none 0 0],d]) h
  have yr:=(s1.box 4 rfl).1
  have fr:=(s1.box 4 rfl).2.1 2
  simp[Zp,Zea]at yr
  unfold RdE.b1_1
  simp -dsimp[go_sem,y6,y2,yr,fr]
  refine fin _ (Zsu (D:=D) ?_ hB hst)
  have:=s1.set 4 rfl 2 (.int .i64 (mat s))
  rw[←e1]
  simpa[rdL,Zea]using this
 ·have e1:endS s=s.size:=by
   unfold Zjf at h1;unfold endS
   cases hb:(Zah s).2 with
   | none=>rfl
   | some k=>rw[hb]at h1;simp at h1
  refine fin _ ?_
  rw[e1];exact h
end
end Go.Proofs.YtckbgeedlobfaaaGreatDoor
namespace Go.Px
open Go.RowKit
def RS (S:Array Value→World→Prop):Ending→World→Prop
 | .returned (.tuple vs),w=>S vs w
 | _,_=>False
theorem Zgi {P:Program}{N:Nat}{D:List Deferred}{c:Code}{a:Act}{w:World}{S:Array Value→World→Prop}{T U:Env→Array Value}{Q:Exit→Act→World→Prop}
  (h:c.wp P (post (pan (RS S)) N (QX (fun ρ w=>RS S (.returned (.tuple (T ρ))) w) (fun ρ w=>RS S (.returned (.agg (U ρ))) w) []) D) a w)
  (hk:∀a' ρ' w',Rel N a' ρ' D→S (T ρ') w'→Q .normal a' w'):c.wp P Q a w:=by
 refine wp_mono h ?_
 rintro e a' w' hp
 cases e with
 | normal=>obtain ⟨ρ,hr,h⟩:=hp;exact hk a' ρ w' hr h
 | ret=>obtain ⟨ρ,hr,h⟩:=hp;exact h.elim
 | panic ch=>obtain ⟨_,h,_⟩:=hp
 | exit k=>obtain ⟨_,_,h⟩:=hp;exact h.elim
 | goto k=>obtain ⟨_,_,h⟩:=hp;exact h.elim
 | outgrown=>obtain ⟨_,_,h⟩:=hp;exact h.elim
theorem Zyw {P:Program}{N:Nat}{F:Fence}{n:Nat}{c:Code}{a:Act}{w:World}{S:Array Value→World→Prop}{T:Env→Array Value}{K:Act→World→Prop}
  (h:c.wpIn F n P (post (pan (RS S)) N (QX (fun ρ w=>RS S (.returned (.tuple (T ρ))) w) (fun ρ w=>RS S (.returned (.bool false)) w) [])) a w)
  (hk:∀a' ρ' w',Rel N a' ρ'→S (T ρ') w'→K a' w'):c.wpIn F n P (Exit.then K (fun _ _ _=>False)) a w:=by
 refine wpIn_mono h ?_
 rintro e a' w' hp
 cases e with
 | normal=>obtain ⟨ρ,hr,h⟩:=hp;exact hk a' ρ w' hr h
 | ret=>obtain ⟨ρ,hr,h⟩:=hp;exact h.elim
 | panic ch=>obtain ⟨_,h,_⟩:=hp
 | exit k=>obtain ⟨_,_,h⟩:=hp;exact h.elim
 | goto k=>obtain ⟨_,_,h⟩:=hp;exact h.elim
 | outgrown=>obtain ⟨_,_,h⟩:=hp;exact h.elim
def Zse (D:Nat):Ch where
 ok w F:=F D∧w.heap[D]?=some (.deferred (some []))
 keep h hc hX hF:=by
  have hb:=(Array.getElem?_eq_some_iff.1 h.2).1
  exact ⟨hF _ hb h.1,(hc.block D hb (hX D hb h.1)).trans h.2⟩
def FrR (n0 n m i:Nat):Prop:=n0≤i∧¬(n≤i∧i<m)
theorem Zhd.round {n0 n m:Nat}{w w':World}{L:List Ch}(h:St (FrR n0 n m) w w' L)(h0:n0≤w.heap.size)(hm:m≤w.heap.size):Zhd L w' (FrR n0 n m):=by
 refine h.leave.keep (Chg.refl noB _) (fun _ _ _=>id) fun i hi hh=>?_
 rcases hh with hh|hh
 ·exact hh
 ·exact ⟨by omega,by omega⟩
def opsC:Code→Array Oper | .region _ ops _=>ops | _=>#[]
end Go.Px
namespace Go.Proofs.YtckbgeedlobfaaaGreatDoor
open Go.Px Go.Px.Scan Go.Px.Spec Go.RowKit
attribute [-go_sem] Builtin.append_
noncomputable def reg8:Code:=fstC (sndC (sndC (sndC (sndC (sndC (Zm Tryz.f26))))))
theorem ZZ250:reg8 = .region 8 (opsC reg8) false:=by kernel_rfl
theorem ZZ198:(opsC reg8).size=2:=by kernel_rfl
theorem ZZ167:((opsC reg8)[0]?).map (fun o=>(o.dst,o.op,o.guard))=some (some 39,.makeFunc (.func 46) #[] #[.tmp 3],none):=by kernel_rfl
theorem ZZ171:((opsC reg8)[1]?).map (fun o=>(o.dst,o.op,o.guard))=some (none,.defer ⟨.value (.tmp 39),#[],#[]⟩,none):=by kernel_rfl
theorem ZZ247 {Q:Exit→Act→World→Prop}{a:Act}{w:World}{v3:Value}(hsz:a.tmps.size=49)(h3:a.tmps.getD 3 undef=v3)
  (hK:Q .normal {tmps:=a.tmps.setIfInBounds 39 (.func (.func 46) #[] #[v3]),defers:={target := .fn (.func 46) #[v3],args:=#[] }::a.defers } w):reg8.wp Tryz.prog Q a w:=by
 rw[ZZ250]
 refine wp_region ?_
 rw[ZZ198]
 obtain ⟨o0,h0⟩:∃o,(opsC reg8)[0]?=some o:=by
  have:=ZZ167
  cases h:(opsC reg8)[0]? with
  | none=>rw[h]at this;cases this
  | some o=>exact ⟨o,rfl⟩
 obtain ⟨o1,h1⟩:∃o,(opsC reg8)[1]?=some o:=by
  have:=ZZ171
  cases h:(opsC reg8)[1]? with
  | none=>rw[h]at this;cases this
  | some o=>exact ⟨o,rfl⟩
 have k0:=ZZ167
 have k1:=ZZ171
 rw[h0]at k0
 rw[h1]at k1
 obtain ⟨d0,p0,t0,ps0,af0,g0⟩:=o0
 obtain ⟨d1,p1,t1,ps1,af1,g1⟩:=o1
 simp at k0 k1
 obtain ⟨rfl,rfl,rfl⟩:=k0
 obtain ⟨rfl,rfl,rfl⟩:=k1
 rw[Array.getD_eq_getD_getElem?]at h3
 simp[List.range,List.range.loop,wpOps,h0,h1,Region.wanted,Oper.wp,execOp,go_sem,h3]
 rw[if_pos (by omega)]
 exact .inl (.inl hK)
noncomputable def reg9:Code:=fstC (sndC (sndC (sndC (sndC (sndC (sndC (Zm Tryz.f26)))))))
theorem ZZ249:reg9 = .region 9 (opsC reg9) false:=by kernel_rfl
theorem ZZ227:(opsC reg9).size=2:=by kernel_rfl
theorem ZZ170:((opsC reg9)[0]?).map (fun o=>(o.dst,o.op,o.guard))=some (some 40,.load 75 (.tmp 2),none):=by kernel_rfl
theorem ZZ175:((opsC reg9)[1]?).map (fun o=>(o.dst,o.op,o.guard))=some (some 41,.call ⟨.value (.func 47),#[.tmp 40],#[75]⟩,none):=by kernel_rfl
theorem ZZ213 {Q:Exit→Act→World→Prop}{a:Act}{w:World}{q2:Nat}{u:Value}{S:Ending→World→Prop}(hsz:a.tmps.size=49)(h2:a.tmps.getD 2 undef = .pointer (some ⟨q2,0,none⟩))(hc:w.cell? ⟨q2,0,none⟩=some u)
  (hS:CtE Tryz.prog 47 #[u] w S)
  (hK:∀e w',S e w'→match e with
   | .returned v=>Q .normal {tmps:=(a.tmps.setIfInBounds 40 u).setIfInBounds 41 v,defers:=a.defers } w'
   | .panicked ch=>Q (.panic ch) {tmps:=a.tmps.setIfInBounds 40 u,defers:=a.defers } w'
   | .outgrown=>False):reg9.wp Tryz.prog Q a w:=by
 rw[ZZ249]
 refine wp_region ?_
 rw[ZZ227]
 obtain ⟨o0,h0⟩:∃o,(opsC reg9)[0]?=some o:=by
  have:=ZZ170
  cases h:(opsC reg9)[0]? with
  | none=>rw[h]at this;cases this
  | some o=>exact ⟨o,rfl⟩
 obtain ⟨o1,h1⟩:∃o,(opsC reg9)[1]?=some o:=by
  have:=ZZ175
  cases h:(opsC reg9)[1]? with
  | none=>rw[h]at this;cases this
  | some o=>exact ⟨o,rfl⟩
 have k0:=ZZ170
 have k1:=ZZ175
 rw[h0]at k0
 rw[h1]at k1
 obtain ⟨d0,p0,t0,ps0,af0,g0⟩:=o0
 obtain ⟨d1,p1,t1,ps1,af1,g1⟩:=o1
 simp at k0 k1
 obtain ⟨rfl,rfl,rfl⟩:=k0
 obtain ⟨rfl,rfl,rfl⟩:=k1
 rw[Array.getD_eq_getD_getElem?]at h2
 simp[List.range,List.range.loop,wpOps,h0,h1,Region.wanted,Oper.wp,execOp,go_sem,h2,hc]
 rw[if_pos (by omega)]
 refine .inl (.inl (hS.2.mono fun e w' he=>?_))
 have:=hK e w' he
 cases e with
 | returned v=>exact this
 | panicked ch=>exact this
 | outgrown=>exact this.elim
def rgL (q2 q3 b:Nat)(A:Option Addr)(c:Nat)(pre:List Wd)(e:Int):List Ch:=[boxC q2 75 [.pointer (some ⟨b,0,none⟩)],boxC q3 3 [.int .i64 0],rdC b A c pre e 0 [] noT [] []]
def rgL4 (q2 q3 q4 b:Nat)(A:Option Addr)(c:Nat)(pre:List Wd)(x:Wd)(e:Int):List Ch:=[boxC q2 75 [.pointer (some ⟨b,0,none⟩)],boxC q3 3 [.int .i64 0],boxC q4 73 [.int .i64 x.1,.string x.2.1,.int .i64 x.2.2],rdC b A c pre e 0 [] noT [] []]
theorem ZZ152 {s:ByteArray}{a:Act}{ρ:Env}{w0 w:World}{q2 q3 b p B:Nat}{Q:Exit→Act→World→Prop}(hs:s.size≤maxLen)(hO:Ord w0 B)(hB:B≤w0.heap.size)
  (hr:Rel 49 a ρ) (h2:ρ 2 = .pointer (some ⟨q2,0,none⟩)) (h14:ρ 14 = .func (.func Zcn.id) #[] #[.pointer (some ⟨p,0,none⟩)]) (hp:w.cell? ⟨p,0,none⟩=some (.string (short s)))
  (h:St noB w0 w (rgL q2 q3 b none 0 [] s.size))
  (hK:∀w' D A c,St noB w0 w' (rgL q2 q3 b A c (Zah s).1 s.size++[Zse D])→Q .normal {a with defers:={target := .collected D,args:=#[] }::a.defers } w') :
  (Code.block 0 (.rangeFunc (.tmp 14) #[15] RdAsg.code RdBody.code)).wp Tryz.prog Q a w:=by
 refine wp_block ?_
 have hwo:=h.chg.size
 have h14':a.eval (.tmp 14) = .func (.func Zcn.id) #[] #[.pointer (some ⟨p,0,none⟩)]:=by
  show a.tmps.getD 14 undef=_
  rw[hr.get 14,h14]
 refine ZZ318 h14' Zcn.enters (Zx6 hp ZZ130 (hO.chg h.chg hB (fun _ _=>id)) (Nat.le_trans hB hwo)) (Nat.le_trans hB hwo) (fun _=>rfl)
  (fun pre W=>∃A c,Chg noB w0 W∧Zhd (rgL q2 q3 b A c pre s.size) W (FrR w0.heap.size w.heap.size (w.heap.size+3)))
  (fun _ _ _=>False) ?hI ?hIx ?h0
  (fun pre x a₁ W=>∃A c q4 ρ₁,Rel 49 a₁ ρ₁∧ρ₁ 2 = .pointer (some ⟨q2,0,none⟩)∧ρ₁ 4 = .pointer (some ⟨q4,0,none⟩)∧Chg noB w0 W∧Zhd (rgL4 q2 q3 q4 b A c pre x s.size) W (FrR w0.heap.size w.heap.size (w.heap.size+3))) ?hA ?assign ?body ?done ?stop
 case hI=>
  rintro pre X X' hX ⟨A,c,h1,h3⟩ hc
  exact ⟨A,c,h1.trans' hc (fun i hi h=>by omega),h3.keep hc (fun i hi h=>by unfold FrR at h;omega) (fun _ _ h=>h)⟩
 case hIx=>exact fun _ _ _ _ _ h=>h.elim
 case h0=>
  exact ⟨none,0,h.chg,h.all.keep (Chg.refl noB _) (fun _ _ _=>id) fun i hi hh=>⟨Nat.le_of_not_lt hh,by omega⟩⟩
 case hA=>
  rintro pre x a₁ X X' hX ⟨A,c,q4,ρ₁,e1,e2,e3,h1,h3⟩ hc
  exact ⟨A,c,q4,ρ₁,e1,e2,e3,h1.trans' hc (fun i hi h=>by omega),h3.keep hc (fun i hi h=>by unfold FrR at h;omega) (fun _ _ h=>h)⟩
 case assign=>
  rintro l pre x W K hsW ⟨A,c,h1,h3⟩ _ hK
  have hz:((#[15]:Array Tmp).zip #[wdV x]).foldl (fun t (p,v)=>t.setIfInBounds p v) a.tmps=a.tmps.setIfInBounds 15 (wdV x):=by simp
  rw[hz]
  have hsz:=hr.size
  refine Zyw (RdAsg.body_wp (ρ:=fun n=>(a.tmps.setIfInBounds 15 (wdV x)).getD n undef) ⟨by simpa using hsz,fun _=>rfl,rfl⟩
   (R:=RS fun vs w'=>∃q4,vs=#[.pointer (some ⟨q2,0,none⟩),.pointer (some ⟨q4,0,none⟩)]∧St noB W w' [boxC q4 73 [.int .i64 x.1,.string x.2.1,.int .i64 x.2.2]]) ?_) ?_
  ·have e2:(a.tmps.setIfInBounds 15 (wdV x)).getD 2 undef = .pointer (some ⟨q2,0,none⟩):=by
    rw[←h2,←hr.get 2];simp[Array.getD_eq_getD_getElem?]
   have e15:(a.tmps.setIfInBounds 15 (wdV x)).getD 15 undef=wdV x:=by
    rw[Array.getD_eq_getD_getElem?];simp[hsz]
   show RdAsg.b1 _ ((a.tmps.setIfInBounds 15 (wdV x)).getD 2 undef) ((a.tmps.setIfInBounds 15 (wdV x)).getD 15 undef) W
   rw[e2,e15]
   exact ZZ256 fun w' q4 s1=>⟨q4,rfl,s1⟩
  ·rintro a' ρ' w' hr' ⟨q4,hv,s1⟩
   injection hv with hv
   injection hv with hv2 hv
   injection hv with hv4 _
   have s2:=((St.enter h3).seq s1).pick [0,1,3,2] (L':=rgL4 q2 q3 q4 b A c pre x s.size) (by decide) rfl
   refine hK a' w' (s2.chg.mono fun i _ h=>by unfold FrR at h;omega) ⟨A,c,q4,ρ',hr',hv2,hv4,h1.trans s1.chg,Zhd.round s2 (by omega) (by omega)⟩
 case body=>
  rintro l pre x a₁ W hsW ⟨A,c,q4,ρ₁,e1,e2,e3,h1,h3⟩ hok
  rw[Zm9]at hok
  obtain ⟨t,ht⟩:=hok
  have hj:pre.length<10000:=by have:=Zrk s;rw[←ht]at this;simp at this;omega
  have hx:x.2.1.size≤maxLen:=ZZ114 s hs x (by rw[←ht];simp)
  refine wpIn_mono (c:=RdBody.code) (RdBody.body_wp (ρ:=ρ₁) (a:=a₁) e1
   (R:=fun e W'=>e = .returned (.bool true)∧∃A' c',St (FrR w0.heap.size w.heap.size (w.heap.size+3)) W W' (rgL4 q2 q3 q4 b A' c' (pre++[x]) x s.size)) ?_) ?_
  ·rw[e2,e3]
   exact ZZ86 hx hj (St.enter h3) fun w' A' c' s'=>⟨rfl,A',c',s'⟩
  ·intro e a' W' hp'
   cases e with
   | normal=>
    obtain ⟨_,_,_,A',c',s'⟩:=hp'
    refine ⟨s'.chg.mono fun i _ h=>by unfold FrR at h;omega,A',c',h1.trans' s'.chg (fun i hi h=>by unfold FrR at h;omega),?_⟩
    exact Zhd.round (s'.pick [0,1,3] (L':=rgL q2 q3 b A' c' (pre++[x]) s.size) (by decide) rfl) (by omega) (by omega)
   | ret=>obtain ⟨_,_,hq,_⟩:=hp';cases hq
   | exit id=>obtain ⟨_,_,hq⟩:=hp';obtain ⟨f,hf,_⟩:=Zq2 hq;simp at hf
   | goto id=>obtain ⟨_,_,hq⟩:=hp';obtain ⟨f,hf,_⟩:=Zq2 hq;simp at hf
   | panic ch=>obtain ⟨_,hq,_⟩:=hp';cases hq
   | outgrown=>obtain ⟨_,_,hq⟩:=hp';exact hq.elim
 case done=>
  rintro D xs W hD hsW hxs ⟨A,c,h1,h3⟩ hKm
  rw[Zm9]at hxs
  subst hxs
  refine hK W D A c ?_
  have s1:St noB w0 W (rgL q2 q3 b A c (Zah s).1 s.size++[Zse D]):=by
   obtain ⟨T,hT,hk⟩:=h3
   have hDW:=(Array.getElem?_eq_some_iff.1 hKm).1
   refine ⟨h1,fun i=>if i=D then 4 else T i,fun i hi=>?_,fun k d hk'=>?_⟩
   ·by_cases e:i=D
    ·subst e;exact ⟨fun h=>by omega,hDW⟩
    ·dsimp only at hi;rw[if_neg e]at hi
     exact ⟨fun hlt=>by have:=(hT i hi).1.1;omega,(hT i hi).2⟩
   ·by_cases hk3:k<3
    ·rw[List.getElem?_append_left (by simpa[rgL]using hk3)]at hk'
     refine d.keep (X:=noB) (hk k d hk') (Chg.refl _ _) (fun _ _ _=>id) fun i _ e=>?_
     have:=(hT i (by omega)).1.2
     dsimp only;rw[if_neg (by intro e;subst e;omega)];exact e
    ·rw[List.getElem?_append_right (by simp[rgL];omega)]at hk'
     have hk0:k=3:=by
      have:=(List.getElem?_eq_some_iff.1 hk').1;simp[rgL]at this;omega
     subst hk0
     simp[rgL]at hk'
     subst hk'
     exact ⟨by simp,hKm⟩
  exact s1
 case stop=>exact fun _ _ _ _ _ _ _ h _=>h.elim
end Go.Proofs.YtckbgeedlobfaaaGreatDoor
namespace Go.Px.Spec
open Go.Px Go.Px.Scan
def badS (s:ByteArray):Int :=
 match goM m0 (Zah s).1 with
 | (_,x::_)=>x.2.2
 | (m,[])=>match (Zah s).2 with | some k=>k | none=>if Zet m then -1 else s.size
theorem Zzy {s:ByteArray}{a:Int}(h:Zew (endS s) m0 (Zah s).1 a):badS s=a:=by
 obtain ⟨h1,h2⟩:=h
 unfold posM at h1
 unfold accM at h2
 unfold badS
 cases hg:goM m0 (Zah s).1 with
 | mk m l=>
  rw[hg]at h1 h2
  cases l with
  | cons x l=>exact h1.symm
  | nil=>
   have h3:Zet m=false:=by
    cases he:Zet m with
    | false=>rfl
    | true=>exact absurd ⟨m,rfl,he⟩ h2
   simp only[h3]at h1 ⊢
   unfold endS at h1
   cases hb:(Zah s).2 with
   | none=>rw[hb]at h1;simpa using h1.symm
   | some k=>rw[hb]at h1;simpa using h1.symm
theorem ZZ306 {s:ByteArray}{m:Mc}(h:goM m0 (Zah s).1=(m,[]))(he:Zet m=true):badS s=if Zjf s=0 then -1 else mat s:=by
 unfold badS Zjf mat
 rw[h]
 cases hb:(Zah s).2 with
 | none=>simp[he]
 | some k=>simp
theorem ZZ193 (l:List Wd):∀m,∀x∈(goM m l).2,x∈l:=by
 induction l with
 | nil=>intro m x hx;simp[goM]at hx
 | cons w l ih=>
  intro m x hx
  cases h:Zbv m w with
  | none=>rw[Zgw h]at hx;exact hx
  | some m'=>rw[Zcc h]at hx;exact List.mem_cons_of_mem _ (ih m' x hx)
theorem ZZ307 (s:ByteArray)(i:Nat):∀x∈(allS s i).1,0≤x.2.2:=by
 induction i using allS.induct s with
 | case1 i h k h1=>intro x hx;rw[Zlj h h1]at hx;simp at hx
 | case2 i h kd a b n h1 ih=>
  intro x hx
  rw[Zhn h h1]at hx
  rcases List.mem_cons.1 hx with rfl|hx
  ·simp
  ·exact ih x hx
 | case3 i h=>intro x hx;rw[Zjo h]at hx;simp at hx
theorem ZZ140 (s:ByteArray):∀x∈(Zah s).1,0≤x.2.2:=by
 unfold Zah;split
 ·simp
 ·exact ZZ307 s 0
theorem Zz9 {s:ByteArray}(h:badS s<0):(Zah s).2=none∧accM m0 (Zah s).1:=by
 unfold badS at h
 have hs:=ZZ193 (Zah s).1 m0
 unfold accM
 cases hg:goM m0 (Zah s).1 with
 | mk m l=>
  rw[hg]at h hs
  cases l with
  | cons x l=>have:=ZZ140 s x (hs x (by simp));simp at h;omega
  | nil=>
   cases hb:(Zah s).2 with
   | some k=>rw[hb]at h;simp at h;omega
   | none=>
    rw[hb]at h
    simp only at h
    refine ⟨rfl,m,rfl,?_⟩
    cases he:Zet m with
    | true=>rfl
    | false=>rw[he]at h;simp at h;omega
end Go.Px.Spec
namespace Go.Proofs.YtckbgeedlobfaaaGreatDoor
open Go.Px Go.Px.Scan Go.Px.Spec Go.RowKit
attribute [-go_sem] Builtin.append_
def Zmp (s:ByteArray)(w:World)(v:Value)(w':World):Prop :=
 Chg noB w w'∧∃b,v = .tuple #[.pointer (some ⟨b,0,none⟩),.int .i64 (badS s)] ∧
  (badS s<0→∃A c hs st rl ls rs,goM m0 (Zah s).1=(⟨9,hs,st,rl,ls,rs⟩,[])∧Zet ⟨9,hs,st,rl,ls,rs⟩=true∧St noB w w' [rdC b A c (Zah s).1 (endS s) (Zah s).1.length hs st ls rs])
theorem Zxt:Zm Tryz.f26 = .seq RdA.code (.seq RdB.code (.seq (.seq RdC.code (.block 0 (.rangeFunc (.tmp 14) #[15] RdAsg.code RdBody.code))) (.seq RdD.code (.seq RdE.code (.seq reg8 (.seq reg9 RdF.code)))))):=by kernel_rfl
theorem ZZ96 (w:World)(tm:Array Value)(q2 q3:Nat)(x y:Value)(h2:tm.getD 2 undef = .pointer (some ⟨q2,0,none⟩))(h3:tm.getD 3 undef = .pointer (some ⟨q3,0,none⟩))(c2:w.cell? ⟨q2,0,none⟩=some x)(c3:w.cell? ⟨q3,0,none⟩=some y) :
  (results Tryz.f26 tm).run Tryz.prog w = .ok (.tuple #[x,y]) w:=by
 have hr:Tryz.f26.results=#[.cell 2 75,.cell 3 3]:=rfl
 rw[Array.getD_eq_getD_getElem?]at h2 h3
 simp[results,hr,go_sem,asAddr,h2,h3,c2,c3]
theorem Zpa {s:ByteArray}{w w1:World}{tm:Array Value}{q2 q3 b D:Nat}{L:List Ch}{u:FrameMode}{r3:Int}{k2 k3 kD:Nat}
  (h2:tm.getD 2 undef = .pointer (some ⟨q2,0,none⟩)) (h3:tm.getD 3 undef = .pointer (some ⟨q3,0,none⟩))
  (hs:St noB w w1 L) (hk2:L[k2]?=some (boxC q2 75 [.pointer (some ⟨b,0,none⟩)])) (hk3:L[k3]?=some (boxC q3 3 [.int .i64 r3])) (hkD:L[kD]?=some (Zse D)) (h23:k2≠k3) (h3D:k3≠kD) (h2D:k2≠kD)
  (hu:u = .returning∧r3=badS s∨u = .panicking (badP (badS s)))
  (hL:badS s<0→∃A c hs st rl ls rs,u = .returning∧goM m0 (Zah s).1=(⟨9,hs,st,rl,ls,rs⟩,[])∧Zet ⟨9,hs,st,rl,ls,rs⟩=true∧L[0]?=some (rdC b A c (Zah s).1 (endS s) (Zah s).1.length hs st ls rs)) (hk20:k2≠0) (hk30:k3≠0) (hkD0:kD≠0) :
  LeavesInM Fence.wide 3 Tryz.prog Tryz.f26 tm (RT (Zmp s w)) [{target := .fn (.func 46) #[.pointer (some ⟨q3,0,none⟩)],args:=#[] },{target := .collected D,args:=#[] }] u w1:=by
 obtain ⟨y3,yf3,_⟩:=hs.box k3 hk3
 simp[Zp]at y3
  -- what is behind the deferred function
 have fin:∀w2 L2,St noB w w2 L2→L2[k2]?=some (boxC q2 75 [.pointer (some ⟨b,0,none⟩)])→L2[k3]?=some (boxC q3 3 [.int .i64 (badS s)])→L2[kD]?=some (Zse D)→(badS s<0→L2[0]?=L[0]?) →
   LeavesInM Fence.wide 3 Tryz.prog Tryz.f26 tm (RT (Zmp s w)) [{target := .collected D,args:=#[] }] .returning w2:=fun w2 L2 s2 e2 e3 eD e0=>by
  obtain ⟨F,⟨hFD,hD⟩,hF,hsD⟩:=s2.opn eD
  refine ⟨by simp,.inl ⟨_,_,rfl,run_takeDeferred hD,?_⟩⟩
  have s3:=hsD (w2.putObj D (.deferred none)) Ch.emp ((Zd2 _ rfl:Chg (·=D) _ _).mono fun i _ e=>by rw[e];exact hFD) trivial
  have m2:=(s3.box k2 (b:=q2) (t:=75) (cs:=[.pointer (some ⟨b,0,none⟩)]) (by rw[List.getElem?_set_ne (Ne.symm h2D),e2])).1.1
  have m3:=(s3.box k3 (b:=q3) (t:=3) (cs:=[.int .i64 (badS s)]) (by rw[List.getElem?_set_ne (Ne.symm h3D),e3])).1.1
  refine ⟨_,ZZ96 _ tm q2 q3 _ _ h2 h3 m2 m3,s3.chg,b,rfl,fun hneg=>?_⟩
  obtain ⟨A,c,hs',st,rl,ls,rs,_,g1,g2,g3⟩:=hL hneg
  refine ⟨A,c,hs',st,rl,ls,rs,g1,g2,?_⟩
  have g4:=e0 hneg
  rw[g3]at g4
  have g5:(L2.set kD Ch.emp)[0]?=some (rdC b A c (Zah s).1 (endS s) (Zah s).1.length hs' st ls rs):=by rw[List.getElem?_set_ne hkD0,g4]
  have s4:=s3.pick [0] (L':=[rdC b A c (Zah s).1 (endS s) (Zah s).1.length hs' st ls rs]) (by simp) (by simp only[List.map_cons,List.map_nil,g5])
  exact s4
 refine ⟨by rcases hu with ⟨rfl,_⟩ | rfl<;>simp,.inr ⟨fun h=>by simp[Fence.wide]at h,.func 46,#[.pointer (some ⟨q3,0,none⟩)],46,#[.pointer (some ⟨q3,0,none⟩)],rfl,?_,fun g hg=>trivial,?_⟩⟩
 ·simp[invoke,go_sem]
 ·refine Zu0 (a:=badS s) y3 (yf3 0) ?_
  rcases hu with ⟨rfl,rfl⟩|rfl
  ·exact .inl ⟨rfl,fin w1 L hs hk2 hk3 hkD fun _=>rfl⟩
  ·refine .inr ⟨rfl,fun w2 hc2=>?_⟩
   have s2:=(hs.old hc2).set k3 hk3 0 (.int .i64 (badS s))
   exact fin _ _ s2 (by rw[List.getElem?_set_ne (Ne.symm h23),hk2]) (by rw[List.getElem?_set_self (List.getElem?_eq_some_iff.1 hk3).1];rfl) (by rw[List.getElem?_set_ne h3D,hkD]) (fun _=>by rw[List.getElem?_set_ne hk30])
theorem Zz2 {s:ByteArray}{w:World}{B:Nat}{tm:Array Value}(hs:s.size≤maxLen)(hO:Ord w B)(hB:B≤w.heap.size)(hsz:tm.size=49)(h0:tm.getD 0 undef=Value.string s) :
  (Zm Tryz.f26).wp Tryz.prog (bodyPostM Fence.wide 3 Tryz.prog Tryz.f26 (RT (Zmp s w))) {tmps:=tm,defers:=[] } w:=by
 rw[Zxt]
 have hr0:Rel 49 {tmps:=tm,defers:=[] } (fun n=>tm.getD n undef):=⟨hsz,fun _=>rfl,rfl⟩
 refine wp_seq (Zgi (RdA.part_wp hr0 (R:=RS fun vs w'=>∃q2 q3,vs=#[Value.string s,.pointer (some ⟨q2,0,none⟩),.pointer (some ⟨q3,0,none⟩)]∧St noB w w' [boxC q2 75 [.pointer none],boxC q3 3 [.int .i64 0]]) ?_) ?_)
 ·show RdA.b1 _ (tm.getD 0 undef) w
  rw[h0]
  exact ZZ215 fun w' q2 q3 s1=>⟨q2,q3,rfl,s1⟩
 rintro a1 ρ1 w1 r1 ⟨q2,q3,hv,s1⟩
 injection hv with hv;injection hv with e0 hv;injection hv with e2 hv;injection hv with e3 _
 refine wp_seq (Zgi (RdB.part_wp r1 (R:=RS fun vs w'=>∃b,vs=#[Value.string s,.pointer (some ⟨q2,0,none⟩),.pointer (some ⟨q3,0,none⟩)]∧St noB w w' (rgL q2 q3 b none 0 [] s.size)) ?_) ?_)
 ·rw[e0,e2,e3]
  exact ZZ273 hs s1 fun w' b s2=>⟨b,rfl,s2⟩
 clear s1 e0 e2 e3 hr0
 rintro a2 ρ2 w2 r2 ⟨b,hv,s2⟩
 injection hv with hv;injection hv with e0 hv;injection hv with e2 hv;injection hv with e3 _
 refine wp_seq (wp_seq (Zgi (RdC.part_wp r2 (R:=RS fun vs w'=>∃p,vs=#[Value.string s,.pointer (some ⟨q2,0,none⟩),.pointer (some ⟨q3,0,none⟩),.func (.func Zcn.id) #[] #[.pointer (some ⟨p,0,none⟩)]]∧w'.cell? ⟨p,0,none⟩=some (.string (short s))∧St noB w w' (rgL q2 q3 b none 0 [] s.size)) ?_) ?_))
 ·rw[e0,e2,e3]
  exact ZZ214 ⟨_,rfl,Zck _ _ _ rfl 0,s2.old ((Chg.refl noB w2).alloc _)⟩
 clear s2 e0 e2 e3 r1
 rintro a3 ρ3 w3 r3 ⟨p,hv,hp,s3⟩
 injection hv with hv;injection hv with e0 hv;injection hv with e2 hv;injection hv with e3 hv;injection hv with e14 _
 refine ZZ152 hs hO hB r3 e2 e14 hp s3 ?_
 clear s3 r2
 intro w4 D A c s4
 have r4:Rel 49 {a3 with defers:={target := .collected D,args:=#[] }::a3.defers } ρ3 [{target := .collected D,args:=#[] }]:=⟨r3.size,r3.get,by rw[r3.defers]⟩
 refine wp_seq (Zgi (RdD.part_wp r4 (R:=RS fun vs w'=>∃q6,vs=#[Value.pointer (some ⟨q2,0,none⟩),.pointer (some ⟨q3,0,none⟩),.pointer (some ⟨q6,0,none⟩)]∧St noB w w' ((rgL q2 q3 b A c (Zah s).1 s.size++[Zse D])++[boxC q6 36 [.int .i64 (Zjf s),.int .i64 (mat s),.slice none 0 0]])) ?_) ?_)
 ·show RdD.b1 _ (ρ3 0) (ρ3 2) (ρ3 3) w4
  rw[e0,e2,e3]
  exact ZZ225 hs (hO.chg s4.chg hB (fun _ _=>id)) (Nat.le_trans hB s4.chg.size) s4 fun w' q6 s5=>⟨q6,rfl,s5⟩
 clear s4 e0 e2 e3 e14 hp
 rintro a5 ρ5 w5 r5 ⟨q6,hv,s5⟩
 injection hv with hv;injection hv with e2 hv;injection hv with e3 hv;injection hv with e6 _
 refine wp_seq (Zgi (RdE.part_wp r5 (R:=RS fun vs w'=>vs=#[Value.pointer (some ⟨q2,0,none⟩),.pointer (some ⟨q3,0,none⟩),.pointer (some ⟨q6,0,none⟩)]∧St noB w w' [rdC b A c (Zah s).1 (endS s) 0 [] noT [] [],boxC q2 75 [.pointer (some ⟨b,0,none⟩)],boxC q3 3 [.int .i64 0],boxC q6 36 [.int .i64 (Zjf s),.int .i64 (mat s),.slice none 0 0],Zse D]) ?_) ?_)
 ·rw[e2,e3,e6]
  exact ZZ278 s5 fun w' s6=>⟨rfl,s6⟩
 clear s5 e2 e3 e6 r4
 rintro a6 ρ6 w6 r6 ⟨hv,s6⟩
 injection hv with hv;injection hv with e2 hv;injection hv with e3 hv;injection hv with e6 _
 refine wp_seq (ZZ247 r6.size ((r6.get 3).trans e3) ?_)
 have g6:=r6.size
 have g2:=(r6.get 2).trans e2
 have g3:=(r6.get 3).trans e3
 have g66:=(r6.get 6).trans e6
 have gd:=r6.defers
 clear r5 r6 e2 e3 e6
 obtain ⟨tm6,d6⟩:=a6
 simp only at g6 g2 g3 g66 gd
 subst gd
 have y2:=(s6.box 1 rfl).1.1
 have u2:(tm6.setIfInBounds 39 (.func (.func 46) #[] #[.pointer (some ⟨q3,0,none⟩)])).getD 2 undef = .pointer (some ⟨q2,0,none⟩):=by
  rw[←g2];simp[Array.getD_eq_getD_getElem?]
 have u3:(tm6.setIfInBounds 39 (.func (.func 46) #[] #[.pointer (some ⟨q3,0,none⟩)])).getD 3 undef = .pointer (some ⟨q3,0,none⟩):=by
  rw[←g3];simp[Array.getD_eq_getD_getElem?]
 have u6:(tm6.setIfInBounds 39 (.func (.func 46) #[] #[.pointer (some ⟨q3,0,none⟩)])).getD 6 undef = .pointer (some ⟨q6,0,none⟩):=by
  rw[←g66];simp[Array.getD_eq_getD_getElem?]
 have uz:(tm6.setIfInBounds 39 (.func (.func 46) #[] #[.pointer (some ⟨q3,0,none⟩)])).size=49:=by simpa using g6
 revert u2 u3 u6 uz
 generalize tm6.setIfInBounds 39 (.func (.func 46) #[] #[.pointer (some ⟨q3,0,none⟩)])=tm7
 intro u2 u3 u6 uz
 refine wp_seq (ZZ213 (a:=⟨tm7,_⟩) uz u2 y2 (ZZ143 s6 0 rfl) ?_)
 rintro e w7 (⟨hs,st,rl,ls,rs,rfl,h1,h2,s7⟩|⟨a,ha,rfl,s7⟩)
 ·have v2:((tm7.setIfInBounds 40 (.pointer (some ⟨b,0,none⟩))).setIfInBounds 41 (.tuple #[])).getD 2 undef = .pointer (some ⟨q2,0,none⟩):=by
   rw[←u2];simp[Array.getD_eq_getD_getElem?]
  have v3:((tm7.setIfInBounds 40 (.pointer (some ⟨b,0,none⟩))).setIfInBounds 41 (.tuple #[])).getD 3 undef = .pointer (some ⟨q3,0,none⟩):=by
   rw[←u3];simp[Array.getD_eq_getD_getElem?]
  have v6:((tm7.setIfInBounds 40 (.pointer (some ⟨b,0,none⟩))).setIfInBounds 41 (.tuple #[])).getD 6 undef = .pointer (some ⟨q6,0,none⟩):=by
   rw[←u6];simp[Array.getD_eq_getD_getElem?]
  have vz:((tm7.setIfInBounds 40 (.pointer (some ⟨b,0,none⟩))).setIfInBounds 41 (.tuple #[])).size=49:=by simpa using uz
  revert v2 v3 v6 vz
  show _→_→_→_→RdF.code.wp _ _ _ _
  generalize (tm7.setIfInBounds 40 (.pointer (some ⟨b,0,none⟩))).setIfInBounds 41 (.tuple #[])=tm8
  intro v2 v3 v6 vz
  have hbad:=ZZ306 h1 h2
  refine wp_mono (RdF.part_wp (ρ:=fun n=>tm8.getD n undef) (D:=[{target := .fn (.func 46) #[.pointer (some ⟨q3,0,none⟩)],args:=#[] },{target := .collected D,args:=#[] }]) ⟨vz,fun _=>rfl,rfl⟩
   (R:=fun e w'=>e = .returned (.agg #[.pointer (some ⟨q2,0,none⟩),.pointer (some ⟨q3,0,none⟩)])∧St noB w w' [rdC b A c (Zah s).1 (endS s) (Zah s).1.length hs st ls rs,boxC q2 75 [.pointer (some ⟨b,0,none⟩)],boxC q3 3 [.int .i64 (badS s)],boxC q6 36 [.int .i64 (Zjf s),.int .i64 (mat s),.slice none 0 0],Zse D]) ?_) ?_
  ·show RdF.b1 _ (tm8.getD 2 undef) (tm8.getD 3 undef) (tm8.getD 6 undef) w7
   rw[v2,v3,v6]
   exact ZZ121 (L:=[Zse D]) s7 fun w' s8=>⟨rfl,by rw[hbad];exact s8⟩
  ·rintro e a' w' hp
   cases e with
   | normal=>obtain ⟨ρ,_,h,_⟩:=hp;cases h
   | ret=>
    obtain ⟨ρ,hr,hv,s8⟩:=hp
    injection hv with hv;injection hv with hv;injection hv with hv;injection hv with f2 hv;injection hv with f3 _
    show LeavesInM _ _ _ _ _ _ _ _ _
    rw[hr.defers]
    exact Zpa (k2:=1) (k3:=2) (kD:=4) ((hr.get 2).trans f2) ((hr.get 3).trans f3) s8 rfl rfl rfl (by decide) (by decide) (by decide) (.inl ⟨rfl,rfl⟩) (fun _=>⟨A,c,hs,st,rl,ls,rs,rfl,h1,h2,rfl⟩) (by decide) (by decide) (by decide)
   | panic ch=>obtain ⟨_,h,_⟩:=hp;cases h
   | exit k=>obtain ⟨_,_,h⟩:=hp;exact h.elim
   | goto k=>obtain ⟨_,_,h⟩:=hp;exact h.elim
   | outgrown=>obtain ⟨_,_,h⟩:=hp;exact h.elim
 ·have hbad:=Zzy ha
  subst hbad
  have v2:(tm7.setIfInBounds 40 (.pointer (some ⟨b,0,none⟩))).getD 2 undef = .pointer (some ⟨q2,0,none⟩):=by
   rw[←u2];simp[Array.getD_eq_getD_getElem?]
  have v3:(tm7.setIfInBounds 40 (.pointer (some ⟨b,0,none⟩))).getD 3 undef = .pointer (some ⟨q3,0,none⟩):=by
   rw[←u3];simp[Array.getD_eq_getD_getElem?]
  show LeavesInM _ _ _ _ _ _ _ _ _
  exact Zpa (k2:=1) (k3:=2) (kD:=4) v2 v3 s7 rfl rfl rfl (by decide) (by decide) (by decide) (.inr rfl) (fun h=>absurd (Zz9 h).2 ha.2) (by decide) (by decide) (by decide)
theorem Zxl {s:ByteArray}{w:World}{B:Nat}(hs:s.size≤maxLen)(hO:Ord w B)(hB:B≤w.heap.size) :
  CallsIn Fence.wide 3 Tryz.prog Zok.id #[.string s] w (RT (Zmp s w)):=by
 refine callsIn_of_wp_marks Tryz.func26 rfl trivial ?_ rfl
 refine wpIn_wide.2 ?_
 exact Zz2 hs hO hB (by simp) (by simp[Array.getD])
end Go.Proofs.YtckbgeedlobfaaaGreatDoor
namespace Go.Px.Scan
open Go.Px
def Zfm (n:Int)(ts:List (ByteArray×Int))(l:List Int):List (ByteArray×Int):=l.foldl (fun ts h=>ts.modify (h-1).toNat fun t=>(t.1,n)) ts
theorem Zio (ts:List (ByteArray×Int))(k:Nat)(n:Int):(ts.modify k fun t=>(t.1,n)).map (·.1)=ts.map (·.1):=by
 apply List.ext_getElem?
 intro i
 rw[List.getElem?_map,List.getElem?_map,List.getElem?_modify]
 cases ts[i]?<;>simp
 split<;>simp
theorem Zf9 (n:Int)(l:List Int):∀ts,(Zfm n ts l).map (·.1)=ts.map (·.1):=by
 induction l with
 | nil=>exact fun _=>rfl
 | cons h r ih=>intro ts;exact (ih _).trans (Zio _ _ _)
theorem Zep (n:Int)(l:List Int)(ts:List (ByteArray×Int)):(Zfm n ts l).length=ts.length:=by
 have:=congrArg List.length (Zf9 n l ts)
 simpa using this
theorem Zv4 (n:Int)(ts:List (ByteArray×Int))(l:List Int)(h:Int):Zfm n ts (l++[h])=(Zfm n ts l).modify (h-1).toNat fun t=>(t.1,n):=by simp[Zfm]
theorem Zsp (ts:List (ByteArray×Int))(k:Nat)(n:Int):(ts.modify k fun t=>(t.1,n)).map (fun t=>Value.int .i64 t.2)=(ts.map fun t=>Value.int .i64 t.2).set k (.int .i64 n):=by
 apply List.ext_getElem?
 intro i
 rw[List.getElem?_map,List.getElem?_modify,List.getElem?_set,List.getElem?_map]
 by_cases e:k=i
 ·subst e
  by_cases hk:k<ts.length
  ·simp[hk]
  ·simp[hk]
 ·simp[e]
theorem Ziq (n:Int)(l:List Int):∀(ts:List (ByteArray×Int)) (i:Nat),(∀h∈l,1≤h)→(Zfm n ts l)[i]?=(ts[i]?).map fun t=>if (i:Int)+1∈l then (t.1,n) else t:=by
 induction l with
 | nil=>intro ts i _;simp[Zfm]
 | cons h r ih=>
  intro ts i hp
  have h1:=hp h (by simp)
  show (Zfm n (ts.modify (h-1).toNat fun t=>(t.1,n)) r)[i]?=_
  rw[ih _ _ fun x hx=>hp x (by simp[hx]),List.getElem?_modify]
  cases e:ts[i]? with
  | none=>simp
  | some t=>
   by_cases hk:(h-1).toNat=i
   ·have:(i:Int)+1=h:=by omega
    simp[hk,this]
   ·have:(i:Int)+1≠h:=by omega
    have hk':¬(h.toNat-1=i):=by omega
    simp[hk',this]
structure LvP (S:BS)(side:Int)(l:List Int):Prop where
 s0:1≤side
 s1:side≤3
 ne:l≠[]
 terms:∀h∈l,1≤h∧h≤S.terms.length∧((S.terms[(h-1).toNat]?).map (·.2)).getD 0=0
 nd:l.Nodup
open Classical in
noncomputable def Zf3 (S:BS)(side:Int)(l:List Int):Int×Int×BS :=
 if LvP S side l then ((S.levels.length:Int)+1,0,{S with levels:=S.levels++[side],terms:=Zfm ((S.levels.length:Int)+1) S.terms l }) else (0,1,S)
theorem Zf0 {S:BS}{side:Int}{l:List Int}(h:LvP S side l):Zf3 S side l=((S.levels.length:Int)+1,0,{S with levels:=S.levels++[side],terms:=Zfm ((S.levels.length:Int)+1) S.terms l }):=if_pos h
theorem Zkg {S:BS}{side:Int}{l:List Int}(h:¬LvP S side l):Zf3 S side l=(0,1,S):=if_neg h
theorem LvP.used {S:BS}{side:Int}{l:List Int}(h:LvP S side l)(hwf:BSwf S):∀i,i<S.levels.length+1→∃t∈Zfm ((S.levels.length:Int)+1) S.terms l,t.2=(i:Int)+1:=by
 intro i hi
 have hp:∀x∈l,1≤x:=fun x hx=>(h.terms x hx).1
 by_cases e:i=S.levels.length
 ·subst e
  cases hl:l with
  | nil=>exact absurd hl h.ne
  | cons x r=>
   have hx:=h.terms x (by rw[hl];simp)
   have hlt:(x-1).toNat<S.terms.length:=by omega
   have:=Ziq ((S.levels.length:Int)+1) l S.terms (x-1).toNat hp
   rw[List.getElem?_eq_getElem hlt]at this
   rw[Option.map_some,if_pos (by rw[show (((x-1).toNat:Nat):Int)+1=x by omega,hl];simp)]at this
   rw[←hl]
   exact ⟨_,List.mem_of_getElem? this,rfl⟩
 ·obtain ⟨t,ht,e2⟩:=hwf.used i (by omega)
  obtain ⟨k,hk,rfl⟩:=List.getElem_of_mem ht
  have:=Ziq ((S.levels.length:Int)+1) l S.terms k hp
  rw[List.getElem?_eq_getElem hk,Option.map_some]at this
  rw[if_neg (fun hm=>by
   have h9:=(h.terms _ hm).2.2
   rw[show ((k:Int)+1-1).toNat=k by omega,List.getElem?_eq_getElem hk]at h9
   simp at h9
   omega)]at this
  exact ⟨_,List.mem_of_getElem? this,e2⟩
theorem LvP.lev {S:BS}{side:Int}{l:List Int}(h:LvP S side l)(hwf:BSwf S):S.levels.length+1≤S.terms.length:=by
 have h1:((List.range (S.levels.length+1)).map fun i:Nat=>(i:Int)+1).length≤((Zfm ((S.levels.length:Int)+1) S.terms l).map (·.2)).length:=by
  refine Zhx ?_ fun x hx=>?_
  ·refine List.pairwise_map.2 ?_
   refine List.Pairwise.imp ?_ (List.nodup_range (n:=S.levels.length+1))
   intro a b hab e
   exact hab (by omega)
  ·obtain ⟨i,hi,rfl⟩:=List.mem_map.1 hx
   obtain ⟨t,ht,e⟩:=h.used hwf i (by simpa using hi)
   exact List.mem_map.2 ⟨t,ht,e⟩
 simp[Zep]at h1
 exact h1
theorem Zr6 {n:Int}{l:List Int}{ts:List (ByteArray×Int)}(hp:∀x∈l,1≤x){t:ByteArray×Int}(ht:t∈Zfm n ts l):∃s∈ts,t=s∨t=(s.1,n):=by
 obtain ⟨k,hk⟩:=List.getElem?_of_mem ht
 rw[Ziq n l ts k hp]at hk
 cases e:ts[k]? with
 | none=>rw[e]at hk;cases hk
 | some s=>
  rw[e]at hk
  injection hk with hk
  refine ⟨s,List.mem_of_getElem? e,?_⟩
  split at hk
  ·exact Or.inr hk.symm
  ·exact Or.inl hk.symm
theorem ZZ21 {S:BS}{side:Int}{l:List Int}(h:LvP S side l)(ok:BSok S)(hwf:BSwf S):BSok {S with levels:=S.levels++[side],terms:=Zfm ((S.levels.length:Int)+1) S.terms l }:=by
 have hp:∀x∈l,1≤x:=fun x hx=>(h.terms x hx).1
 refine ⟨by simp only[Zep];exact ok.syms,fun t ht=>?_,ok.nnam,by show ((Zfm _ _ _).map _).Nodup;rw[Zf9];exact ok.tnd,ok.nnd,by simp only[Zep,List.length_append,List.length_singleton];exact h.lev hwf,fun t ht=>?_,ok.prods⟩
 ·obtain ⟨s,hs,rfl|rfl⟩:=Zr6 hp ht
  ·exact ok.tnam _ hs
  ·exact ok.tnam s hs
 ·simp only[List.length_append,List.length_singleton]
  obtain ⟨s,hs,rfl|rfl⟩:=Zr6 hp ht
  ·have:=ok.grd _ hs;omega
  ·show 0≤(S.levels.length:Int)+1∧_;omega
theorem ZZ41 {S:BS}{side:Int}{l:List Int}(hwf:BSwf S):BSwf (Zf3 S side l).2.2:=by
 by_cases h:LvP S side l
 ·rw[Zf0 h]
  refine ⟨hwf.left,fun r hr x hx=>by simp only[Zep];exact hwf.right r hr x hx,fun r hr=>?_,hwf.start,fun s hs=>?_,hwf.fit,fun i hi=>?_⟩
  ·have:=hwf.lev r hr;simp only[List.length_append,List.length_singleton];omega
  ·simp at hs
   rcases hs with hs|rfl
   ·exact hwf.sides s hs
   ·exact ⟨h.s0,h.s1⟩
  ·exact h.used hwf i (by simpa using hi)
 ·rw[Zkg h];exact hwf
def Ze0 (S:BS)(level:Int)(l:List Int):Int×BS :=
 if (0≤level∧level≤S.levels.length)∧∀p∈l,0≤p∧p<S.rules.length then (0,{S with rules:=l.foldl (fun rs p=>rs.modify p.toNat fun r=>(r.1,r.2.1,level)) S.rules }) else (1,S)
theorem Zjc {level:Int}{l:List Int}:∀{rs:List (Int×List Int×Int)} {r},r∈l.foldl (fun rs p=>rs.modify p.toNat fun r=>(r.1,r.2.1,level)) rs→∃s∈rs,r=s∨r=(s.1,s.2.1,level):=by
 induction l with
 | nil=>exact fun {rs r} h=>⟨r,h,Or.inl rfl⟩
 | cons p q ih=>
  intro rs r h
  obtain ⟨s,hs,e⟩:=ih h
  obtain ⟨k,hk⟩:=List.getElem?_of_mem hs
  rw[List.getElem?_modify]at hk
  cases e':rs[k]? with
  | none=>rw[e']at hk;cases hk
  | some s'=>
   rw[e']at hk
   injection hk with hk
   refine ⟨s',List.mem_of_getElem? e',?_⟩
   by_cases hpk:p.toNat=k
   ·simp[hpk]at hk
    rcases e with rfl|rfl
    ·exact Or.inr hk.symm
    ·rw[←hk];exact Or.inr rfl
   ·simp[hpk]at hk
    subst hk;exact e
theorem Zlk (level:Int)(l:List Int):∀rs:List (Int×List Int×Int),(l.foldl (fun rs p=>rs.modify p.toNat fun r=>(r.1,r.2.1,level)) rs).length=rs.length:=by
 induction l with
 | nil=>exact fun _=>rfl
 | cons p q ih=>intro rs;rw[List.foldl_cons,ih];simp
theorem Zzr {S:BS}{level:Int}{l:List Int}(ok:BSok S):BSok (Ze0 S level l).2:=by
 unfold Ze0
 split
 ·exact ⟨ok.syms,ok.tnam,ok.nnam,ok.tnd,ok.nnd,ok.lev,ok.grd,by show List.length _≤96;rw[Zlk];exact ok.prods⟩
 ·exact ok
theorem Zy2 {S:BS}{level:Int}{l:List Int}(hwf:BSwf S):BSwf (Ze0 S level l).2:=by
 unfold Ze0
 split
 ·rename_i h
  refine ⟨fun r hr=>?_,fun r hr x hx=>?_,fun r hr=>?_,hwf.start,hwf.sides,fun r hr=>?_,hwf.used⟩
  ·obtain ⟨s,hs,rfl|rfl⟩:=Zjc hr
   ·exact hwf.left _ hs
   ·exact hwf.left s hs
  ·obtain ⟨s,hs,rfl|rfl⟩:=Zjc hr
   ·exact hwf.right _ hs x hx
   ·exact hwf.right s hs x hx
  ·obtain ⟨s,hs,rfl|rfl⟩:=Zjc hr
   ·exact hwf.lev _ hs
   ·exact h.1
  ·obtain ⟨s,hs,rfl|rfl⟩:=Zjc hr
   ·exact hwf.fit _ hs
   ·exact hwf.fit s hs
 ·exact hwf
end Go.Px.Scan
