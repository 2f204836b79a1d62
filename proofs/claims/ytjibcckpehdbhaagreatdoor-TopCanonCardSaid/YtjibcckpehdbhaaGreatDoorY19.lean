/-
  Texts of this claim: Sx7, Sx8, Sx9, Sx10, Sx11, Sx12, Sx13, Sx14.
-/
import Derived.Test.YtjibcckpehdbhaaGreatDoorY18
import Derived.Test.YtjibcckpehdbhaaGreatDoorY04
import Derived.Test.YtjibcckpehdbhaaGreatDoorY14
import Derived.Test.YtjibcckpehdbhaaGreatDoorY08
set_option maxHeartbeats 1000000
set_option linter.unusedSimpArgs false
set_option linter.unusedVariables false
set_option maxRecDepth 100000
namespace Go.Px.Cn
open Go.Px Go.Px.Scan
def IncK (P:Prs)(ks:List (List It))(T:List (Nat×Int))(q0 p k j:Nat):Prop:=∃q B,(rgt P p)[k]?=some B/\Wk P ks q0 ((rgt P p).take k) q/\T[j]?=some (q,B)/\∀s∈(rgt P p).drop (k+1),Nul P s
def IncQ (P:Prs)(ks:List (List It))(T:List (Nat×Int))(j:Nat)(y:Int):Prop:=∃i p k q0,T[i]?=some (q0,lft P p)/\0<p/\p<P.length/\IncK P ks T q0 p k j/\y=(i:Nat)
end Go.Px.Cn
namespace Go.Proofs.YtjibcckpehdbhaaGreatDoor
open Go.Px Go.Px.Scan Go.Px.Cn Go.RowKit
attribute [-go_sem] Builtin.append_ Zan.b1_1 Zan.b2 Zan.b2_1
section
variable {W:World} {pb pw rb pv ib vb ob:Nat} {g:Gr} {ks:List (List It)} {ess:List (List (Int×Nat))} {d:Wd}
theorem Zy4 {w:World}{R:List GRow}{M:List Ch}{T:List (Nat×Int)}{q k i:Nat}{l:List Int}{Ar:Option Addr}{cr:Nat}(hTe:trL g.terms.length ess=T)(hTl:T.length<=40000)(h:WoR W pb g ks ess d)(s:St noB W w (Zes vb ob R++M))
  (hpw:w.cell? ⟨pw,0,none⟩=some (.pointer (some ⟨pb,0,none⟩))) (hrb:w.cell? ⟨rb,0,none⟩=some (.slice Ar l.length cr)) (hpv:w.cell? ⟨pv,0,none⟩=some (putV vb)) (hib:w.cell? ⟨ib,0,none⟩=some (.int .i64 i))
  (hr:(Zq rInt).at1 w w.heap.size (.slice Ar l.length cr) l) (hsym:∀x∈l,0<=x/\x<g.terms.length+g.nons.length) (hk:k<l.length) (hkn:k<100000) {r:Nat} (hgt:Gt g.prods ks q l[k] r) (hi:i<=40000)
  (hRl:R.length=T.length) {N:Nat} (hlen:∀x∈R,x.2.2.length<=N) (hN:N<900000000) :
  Ct Tryz.prog Zan.id #[.int .i64 q,.int .i64 k,.pointer (some ⟨pw,0,none⟩),.pointer (some ⟨rb,0,none⟩),.pointer (some ⟨pv,0,none⟩),.pointer (some ⟨ib,0,none⟩)] w λ _ w'=>∃R':List GRow,R'.length=R.length /\
   (∀(j:Nat) (x':GRow),R'[j]?=some x'->∃x:GRow,R[j]?=some x/\x'.2.2.length<=x.2.2.length+1/\∀y,y∈x'.2.2↔(y∈x.2.2\/(T[j]?=some (q,l[k])/\(∀s∈l.drop (k+1),Nul g.prods s)/\y=(i:Nat))))/\St noB W w' (Zes vb ob R'++M):=by
 refine Zan.ct λ Q hQ=>?_;have hpwl:pw<w.heap.size:=World.block_lt_of_cell? _ _ hpw;have hrbl:rb<w.heap.size:=World.block_lt_of_cell? _ _ hrb;have hW:=h.keep s.chg;have y:=hW.here.cells;have yl:=hW.here.lt;simp[Zw]at y;obtain ⟨b1,o1,rfl,hb1,hc1,hr1⟩:=Go.Px.ints_at hr hk;obtain ⟨sy,hsy⟩:∃sy,l[k]=sy:=⟨_,rfl⟩;simp only[hsy]at hgt hc1 hQ;obtain ⟨g1,g2,g3,g4,g5,n,rfl,g6,g7⟩:=h.gt hgt;have hat:=((hW.keep (Chg.refl noB w).drew).here).at_ q n (by omega) g6;rw[hTe]at hat;have stay:(¬((q,(n:Int))∈T/\∀s∈l.drop (k+1),Nul g.prods s))->∀w',Chg noB w w'->Q (.returned (.tuple #[])) w':=λ hn w' hc=>hQ _ _ ⟨R,rfl,λ j x' hx=>⟨x',hx,by omega,λ y=>⟨Or.inl,λ hy=>hy.elim id λ ⟨h1,h2,_⟩=>absurd ⟨Qe h1,h2⟩ hn⟩⟩,s.old hc⟩;unfold Zan.run;simp -dsimp[go_sem,hpw,hpwl,hrb,hrbl,y,yl,hk,hc1,hb1,hat];refine Za (λ p1=>?_) (λ p1=>?_)
 ·have p1:0<atV T q n:=by simpa using p1
  have hmT:=Zuk.1 p1;have wk:=wS k (by omega);have hkn1:k+1<=l.length:=hk;obtain ⟨A',c',e',hlc,hcm,_⟩:=Zz hr;injection e' with e1 e2 e3;subst e3;have hd:=Zim hr hkn1;have hkc:(k:Int)+1<=(l.length:Int):=by omega
  have hle:(l.length:Int)<=(cr:Int):=by omega
  unfold Zan.b1_1;simp -dsimp[go_sem,hpw,hpwl,hrb,hrbl,wk,hkc,hle];have h0k:(0:Int)<=(k:Int)+1:=by omega
  simp -dsimp[go_sem,h0k];obtain ⟨ad,had⟩:∃ad,(if cr=k+1 then some (⟨b1,o1,none⟩:Addr) else some ⟨b1,o1+(k+1),none⟩)=ad:=⟨_,rfl⟩;rw[had];have hrd:(Zq rInt).at1 w w.heap.size (.slice ad (l.length-(k+1)) (cr-(k+1))) (l.drop (k+1)):=by
   by_cases e:cr=k+1
   ·rw[if_pos e]at had;have hl:l.length=k+1:=by omega
    refine ⟨ad,cr-(k+1),?_,?_,by omega,trivial,λ hp=>?_⟩
    ·rw[Q7]
    ·rw[Q7];omega
    ·rw[Q7]at hp;omega
   ·rw[if_neg e]at had;rw[<-had];simpa[rInt]using hd
  have hcd:Chg noB w w.drew.drew:=(Chg.refl noB w).drew.drew;refine Zi (Zm3 (h.keep (s.chg.trans hcd)) (Rep.below hrd (hcd.below (Ql _) λ _ _=>id)) (by simp) λ x hx=>hsym x (Qb2 hx)) ?_;rintro _ w2 ⟨rfl,hc2⟩;have hc2:=hcd.trans hc2;have hall:(l.drop (k+1)).all (vanS g.terms.length d.ms)=true↔∀s∈l.drop (k+1),Nul g.prods s:=by
   rw[Qar];exact ⟨λ hh s hs=>(h.nul s).2 (hh s hs),λ hh s hs=>(h.nul s).1 (hh s hs)⟩
  unfold Zan.b2;refine Za (λ p3=>?_) (λ p3=>?_)
  ·have hnul:=hall.1 p3;obtain ⟨ht1,ht2⟩:=Zn6 hmT;have wt:IntKind.i64.wrap ((trI T q n:Nat):Int)=((trI T q n:Nat):Int):=IntWalk.i64_in _ (by omega);rw[Zvv hmT];have z1:=hc2.at hpv id;have z2:=hc2.at hib id;unfold Zan.b2_1;simp -dsimp[go_sem,z1,z2,wt];have hxl:trI T q n<R.length:=by omega
   have hx:R[trI T q n]?=some R[trI T q n]:=Qb hxl;have hl1:=hlen _ (Qj hxl);unfold putV;refine Zdx (Ztz (i:=trI T q n) (j:=i) (s.old hc2) hx (by omega) (by omega)) ?_;rintro _ w3 ⟨a',c',s4⟩;refine hQ _ _ ⟨_,Qau ..,λ j x' hx'=>?_,s4⟩;by_cases e:trI T q n=j
   ·subst e;rw[Qn hxl]at hx';injection hx' with hx';subst hx';refine ⟨_,hx,by simp,λ y=>?_⟩
    show y∈R[trI T q n].2.2++[((i:Nat):Int)]↔_
    rw[Qk,Qg];exact or_congr_right ⟨λ h=>⟨ht1,hnul,h⟩,λ h=>h.2.2⟩
   ·rw[Qs e]at hx';refine ⟨x',hx',by omega,λ y=>⟨Or.inl,λ hy=>hy.elim id λ ⟨h1,h2,_⟩=>?_⟩⟩;exact absurd (Zer (hTe ▸ Zke h.aut g.terms.length) ht1 h1) e
  ·refine stay (λ hh=>?_) _ hc2;rw[hall.2 hh.2]at p3;cases p3
 ·refine ?_;unfold Zan.b2;simp -dsimp[go_sem];exact stay (λ hh=>by have:=Zuk.2 hh.1;simp at p1;omega) _ (Chg.refl _ _).drew.drew
end
end Go.Proofs.YtjibcckpehdbhaaGreatDoor
namespace Go.Px.Cn
open Go.Px Go.Px.Scan
theorem Zo4 {P:Prs}{ks:List (List It)}:∀{l:List Int} {q r:Nat},Wk P ks q l r->∃qs:Nat->Nat,qs 0=q/\qs l.length=r/\∀k (h:k<l.length),Gt P ks (qs k) l[k] (qs (k+1))
 | [],q,r,h=>⟨λ _=>q,rfl,h,λ k h=>absurd h (Qcs _)⟩
 | a::l,q,r,⟨q1,h1,h2⟩=>by
  obtain ⟨qs,e1,e2,e3⟩:=Zo4 h2
  refine ⟨λ k=>match k with | 0=>q | k+1=>qs k,rfl,e2,λ k h=>?_⟩
  match k with
  | 0=>show Gt P ks q a (qs 0);rw[e1];exact h1
  | k+1=>exact e3 k (by simpa using h)
theorem Zwm {P:Prs}{ks:List (List It)}{l:List Int}{qs:Nat->Nat}(h:∀k (h:k<l.length),Gt P ks (qs k) l[k] (qs (k+1))):∀k,k<=l.length->Wk P ks (qs 0) (l.take k) (qs k)
 | 0,_=>rfl
 | k+1,hk=>by
  rw[Qd hk]
  exact Wk.snoc (Zwm h k (by omega)) (h k hk)
theorem AutP.rlen {g:Gr}{ks:List (List It)}{ess:List (List (Int×Nat))}(h:AutP g ks ess){q p:Nat}(hi:InCl g.prods ks q (p,0)):(rgt g.prods p).length<=256:=by
 by_cases h0:(rgt g.prods p).length=0
 ·omega
 ·obtain ⟨q1,_,h2⟩:=h.au.along hi ((rgt g.prods p).length-1) (by omega);have hlt:(rgt g.prods p).length-1<(rgt g.prods p).length:=by omega
  have ha:aft g.prods (p,(rgt g.prods p).length-1)=some ((rgt g.prods p)[(rgt g.prods p).length-1]):=Qb hlt;obtain ⟨r,hr⟩:=h.au.gt ⟨_,h2,ha⟩;obtain ⟨l,hl,hm⟩:=hr.mem h2 ha;have:=(h.val l (Qe hl)).2.2.2.2 _ hm;simp only at this;omega
theorem Zir {P:Prs}{s:Int}{p:Nat}:p∈byQ P s↔0<p/\p<P.length/\lft P p=s:=by
 unfold byQ;rw[Qz,Qbg,decide_eq_true_eq];exact ⟨λ ⟨a,b,c⟩=>⟨b,a,c⟩,λ ⟨a,b,c⟩=>⟨b,a,c⟩⟩
theorem Zu2 {P:Prs}{s:Int}:(byQ P s).length<=P.length:=by
 unfold byQ;have:=Qah (λ p=>decide (0<p/\lft P p=s)) (List.range P.length);rwa [Qci]at this
end Go.Px.Cn
namespace Go.Proofs.YtjibcckpehdbhaaGreatDoor
open Go.Px Go.Px.Scan Go.Px.Cn Go.RowKit
attribute [-go_sem] Builtin.append_ Zag.b6 Zag.b11_1 Zag.b8
section
variable {W:World} {pb pw qb pv ib tb vb ob:Nat} {g:Gr} {ks:List (List It)} {ess:List (List (Int×Nat))} {d:Wd}
theorem WoF.prod {w:World}(h:WoF w pb g ks ess d){p:Nat}(hp:p<g.prods.length):∃bp op Ar cr,d.A4=some ⟨bp,op,none⟩/\bp<w.heap.size/\w.cell? ⟨bp,op+p*3+1,none⟩=some (.slice Ar (rgt g.prods p).length cr)/\(Zq rInt).at1 w w.heap.size (.slice Ar (rgt g.prods p).length cr) (rgt g.prods p):=by
 obtain ⟨bp,op,vr,eA,hbp,x1,x2,x3,hr,z1,z2⟩:=Zcc h.pr hp;obtain ⟨Ar,cr,rfl,hrl,hrm,_⟩:=Zz hr;have e:g.prods[p].2.1=rgt g.prods p:=by unfold rgt;rw[Qc,Qb hp];rfl
 rw[e]at x2 hr;exact ⟨bp,op,Ar,cr,eA,hbp,x2,hr⟩
theorem Zxx (h:AutP g ks ess){p:Nat}(hp:p<g.prods.length):∀x∈rgt g.prods p,0<=x/\x<g.terms.length+g.nons.length:=λ x hx=>by
 have hm:g.prods[p]∈g.prods:=Qj hp;have e:rgt g.prods p=g.prods[p].2.1:=by unfold rgt;rw[Qc,Qb hp];rfl
 rw[e]at hx;have:=(h.cl.syms' _ hm).2 x hx;omega
theorem Zwn {w:World}{R0:List GRow}{T:List (Nat×Int)}{q0 i n:Nat}{D:Nat->Int->Prop}{N:Nat}{Q:EP}{C3:VP}(hTe:trL g.terms.length ess=T)(hTl:T.length<=40000)(h:WoR W pb g ks ess d)
  (hpw:∀w',Chg noB W w'->w'.cell? ⟨pw,0,none⟩=some (.pointer (some ⟨pb,0,none⟩))/\pw<w'.heap.size) (hqb:∀w',Chg noB W w'->w'.cell? ⟨qb,4,none⟩=some (.slice d.A4 g.prods.length d.c4)/\qb<w'.heap.size)
  (hT:T[i]?=some (q0,(n:Int))) (hi:i<=40000)
  (s:St noB W w (Zes vb ob R0++[boxC pv 192 [putV vb],boxC ib 3 [.int .i64 i],boxC tb 190 [.int .i64 q0,.int .i64 n]])) (hRl:R0.length=T.length) (hRR:∀(j:Nat) (x:GRow),R0[j]?=some x->x.2.2.length<=N/\∀y,y∈x.2.2↔D j y) (hN:N<=850000000)
  (hgo:∀w' (R:List GRow),R.length=T.length->(∀(j:Nat) (x:GRow),R[j]?=some x->x.2.2.length<=N+97*256/\∀y,y∈x.2.2↔D j y\/∃p k,p∈byQ g.prods n/\IncK g.prods ks T q0 p k j/\y=(i:Nat))->St noB W w' (Zes vb ob R++[boxC pv 192 [putV vb]])->Zag.b6 Q C3 (.int .i64 i) w') :
  Zag.l10 Q C3 (.pointer (some ⟨pw,0,none⟩)) (.pointer (some ⟨qb,0,none⟩)) (.pointer (some ⟨pv,0,none⟩)) (.pointer (some ⟨ib,0,none⟩)) (.pointer (some ⟨tb,0,none⟩)) (.int .i64 i) (.slice (d.pA n) (byQ g.prods n).length (d.pc n)) (.int .i64 (byQ g.prods n).length) (.int .i64 0) w:=by
 have hbl:(byQ g.prods n).length<=97:=Qav Zu2 h.aut.cl.prods.c1;have htr:Tr g.prods ks q0 (n:Int):=by
  have hm:=Qe hT;rw[<-hTe,h.aut.mem_trL]at hm;exact hm.2
 obtain ⟨r0,hg0⟩:=h.aut.au.gt htr;obtain ⟨hq0,_,_,_,_,n',hn',hn6,_⟩:=h.gt hg0;have:n'=n:=by omega
 subst this;refine Zag.l10_intro _ _ _ _ _ _ _ _ _ _ _ _ (λ y w'=>∃(m:Nat) (R:List GRow),y = .int .i64 m/\m<=(byQ g.prods n').length/\R.length=T.length/\(∀(j:Nat) (x:GRow),R[j]?=some x->x.2.2.length<=N+m*256/\∀y,y∈x.2.2↔D j y\/∃p k,p∈(byQ g.prods n').take m/\IncK g.prods ks T q0 p k j/\y=(i:Nat))/\St noB W w' (Zes vb ob R++[boxC pv 192 [putV vb],boxC ib 3 [.int .i64 i],boxC tb 190 [.int .i64 q0,.int .i64 n']])) (λ y _=>(byQ g.prods n').length-iv y)
  ⟨0,R0,rfl,Qy _,hRl,λ j x hx=>⟨by have:=(hRR j x hx).1;omega,λ y=>by rw[(hRR j x hx).2];simp⟩,s⟩ ?_
 rintro _ w1 ⟨m,R,rfl,hm,hRl1,hRR1,s1⟩ C hC;simp -dsimp[go_sem];refine Za (λ p1=>?_) (λ p1=>?_)<;>simp at p1
 ·have wm:=wS m (by omega);have hW1:=h.keep s1.chg;have hf:=hW1.here;obtain ⟨p,hp⟩:∃p,(byQ g.prods n')[m]=p:=⟨_,rfl⟩;have hpm:(byQ g.prods n')[m]?=some p:=by rw[Qb p1,hp]
  obtain ⟨hp0,hpl,hlf⟩:=Zir.1 (Qe hpm);obtain ⟨gb,egb,hcb⟩:=(hf.by_ (n':Int) ⟨by omega,by omega⟩).2 m p hpm;obtain ⟨bp,op,Ar,cr,eA4,hbp,x2,hr⟩:=hf.prod hpl;obtain ⟨yq,yql⟩:=hqb w1 s1.chg;have hx:=h.aut.au.cl hpl (hlf ▸ htr);have hrl:=h.aut.rlen hx;obtain ⟨qe,hwk,_⟩:=h.aut.au.along hx _ (Ql _);rw[Qm]at hwk;obtain ⟨qs,e1,e2,e3⟩:=Zo4 hwk;have s2:=s1.alloc #[.slice Ar (rgt g.prods p).length cr] 24;rw[eA4]at yq;rw[egb];unfold Zag.b11_1;simp -dsimp[go_sem,p1,hcb,yq,yql,hpl,x2];have hW2:=hW1.keep ((Chg.refl noB w1).alloc (.cells #[.slice Ar (rgt g.prods p).length cr] 24));generalize w1.alloc (.cells #[.slice Ar (rgt g.prods p).length cr] 24)=w2 at s2 hW2 |-;generalize w1.heap.size=rb at s2 |-;have y2:=(s2.box 5 rfl).1;have z2:=(s2.box 6 rfl).1;have yp:=(hpw w2 s2.chg).1;simp[Zw]at y2 z2;simp -dsimp[go_sem,y2,z2,yp];obtain ⟨l,hl⟩:∃l,rgt g.prods p=l:=⟨_,rfl⟩;rw[hl]at hrl e2 e3 z2 s2 hr |-;obtain rfl:q0=qs 0:=e1.symm;have hwk3:=Zwm e3;have hrW:∀w',Chg noB W w'->(Zq rInt).at1 w' W.heap.size (.slice Ar l.length cr) l:=λ w' hc=>by
   obtain ⟨bp',op',Ar',cr',eA',_,x2',hr'⟩:=h.here.prod hpl;rw[hl]at x2' hr';rw[eA4]at eA';injection eA' with eA';injection eA' with e5 e6;subst e5 e6;have:=s1.chg.at x2' id;rw[x2]at this;injection this with this;injection this with t1 t2 t3;subst t1 t3;exact Rep.below hr' (hc.below (Ql _) λ _ _=>id)
  have hsym:=Zxx h.aut hpl;rw[hl]at hsym;refine Zi (Zrk (B:=W.heap.size) (qs:=qs) (l:=l) (λ k w'=>∃R':List GRow,R'.length=T.length/\(∀(j:Nat) (x:GRow),R'[j]?=some x->x.2.2.length<=N+m*256+k/\∀y,y∈x.2.2↔(D j y\/∃p k,p∈(byQ g.prods n').take m/\IncK g.prods ks T (qs 0) p k j/\y=(i:Nat))\/∃k',k'<k/\IncK g.prods ks T (qs 0) p k' j/\y=(i:Nat))/\St noB W w' (Zes vb ob R'++[boxC pv 192 [putV vb],boxC ib 3 [.int .i64 i],boxC tb 190 [.int .i64 (qs 0),.int .i64 n'],boxC rb 24 [.slice Ar l.length cr]]))
   ⟨R,hRl1,λ j x hx=>⟨(hRR1 j x hx).1,λ y=>by rw[(hRR1 j x hx).2];exact ⟨Or.inl,λ h=>h.elim id λ ⟨k',h,_⟩=>absurd h (Qcs _)⟩⟩,s2⟩
   (λ k w' ⟨R',_,_,s'⟩=>h.keep s'.chg) (λ k w' ⟨R',_,_,s'⟩=>hrW w' s'.chg) (by omega) e3 λ k hk w' ⟨R',hR1,hR2,s'⟩=>?_) ?_
  ·have a1:=(hpw w' s'.chg).1;have a2:=(s'.box 6 rfl).1;have a3:=(s'.box 3 rfl).1;have a4:=(s'.box 4 rfl).1;refine (Zy4 hTe hTl h s' a1 a2.1 a3.1 a4.1 (Rep.up (hrW w' s'.chg) s'.chg.size) hsym hk (by omega) (e3 k hk) hi hR1 (N:=N+m*256+k) (λ x hx=>?_) (by omega)).mono ?_
   ·obtain ⟨j,hj⟩:=Qo.1 hx;exact (hR2 j x hj).1
   ·rintro _ w'' ⟨R'',b1,b2,b3⟩;refine ⟨R'',by rw[b1,hR1],λ j x' hx'=>?_,b3⟩;obtain ⟨x,hx,b4,b5⟩:=b2 j x' hx';obtain ⟨b6,b7⟩:=hR2 j x hx;refine ⟨by omega,λ y=>?_⟩;rw[b5,b7];have hik:IncK g.prods ks T (qs 0) p k j↔T[j]?=some (qs k,l[k])/\∀s∈l.drop (k+1),Nul g.prods s:=by
     unfold IncK;rw[hl];constructor
     ·rintro ⟨q,B,c1,c2,c3,c4⟩;rw[Qb hk]at c1;injection c1 with c1;subst c1;rw[<-h.aut.au.wuniq c2 (hwk3 k (by omega))];exact ⟨c3,c4⟩
     ·rintro ⟨c1,c2⟩;exact ⟨qs k,l[k],Qb hk,hwk3 k (by omega),c1,c2⟩
    constructor
    ·rintro ((hd|⟨k',hk',hd⟩)|⟨c1,c2,c3⟩)
     ·exact Or.inl hd
     ·exact Or.inr ⟨k',by omega,hd⟩
     ·exact Or.inr ⟨k,by omega,hik.2 ⟨c1,c2⟩,c3⟩
    ·rintro (hd|⟨k',hk',hd,hy⟩)
     ·exact Or.inl (Or.inl hd)
     ·by_cases e:k'=k
      ·subst e;obtain ⟨c1,c2⟩:=hik.1 hd;exact Or.inr ⟨c1,c2,hy⟩
      ·exact Or.inl (Or.inr ⟨k',by omega,hd,hy⟩)
  ·rintro _ w3 ⟨rfl,R',hR1,hR2,s3⟩;simp -dsimp[go_sem,wm];refine hC _ _ ⟨m+1,R',by simp,by omega,hR1,λ j x hx=>?_,s3.take 6⟩ (by simp[iv];omega);obtain ⟨b6,b7⟩:=hR2 j x hx;refine ⟨by omega,λ y=>?_⟩;rw[b7,Qd p1,hp];constructor
   ·rintro ((hd|⟨p',k',h1,h2,h3⟩)|⟨k',hk',hd,hy⟩)
    ·exact Or.inl hd
    ·exact Or.inr ⟨p',k',Q0 _ h1,h2,h3⟩
    ·exact Or.inr ⟨p,k',by simp,hd,hy⟩
   ·rintro (hd|⟨p',k',h1,h2,h3⟩)
    ·exact Or.inl (Or.inl hd)
    ·rcases Qk.1 h1 with h1|h1
     ·exact Or.inl (Or.inr ⟨p',k',h1,h2,h3⟩)
     ·rw[Qg]at h1;subst h1;refine Or.inr ⟨k',?_,h2,h3⟩;obtain ⟨q,B,c1,_⟩:=h2;rw[hl]at c1;exact (Qa.1 c1).1
 ·have:m=(byQ g.prods n').length:=by omega
  subst this;rw[Qm]at hRR1;refine hgo w1 R hRl1 (λ j x hx=>⟨by have:=(hRR1 j x hx).1;omega,(hRR1 j x hx).2⟩) (s1.take 4)
end
attribute [-go_sem] Za5.b1_1 Za5.b1_2
section
variable {W:World} {pb pw qb vb ob:Nat} {g:Gr} {ks:List (List It)} {ess:List (List (Int×Nat))} {d:Wd}
theorem Znb {w:World}{T:List (Nat×Int)}(hTe:trL g.terms.length ess=T)(hTl:T.length<=33280)(h:WoR W pb g ks ess d)
  (hpw:∀w',Chg noB W w'->w'.cell? ⟨pw,0,none⟩=some (.pointer (some ⟨pb,0,none⟩))/\pw<w'.heap.size) (hqb:∀w',Chg noB W w'->w'.cell? ⟨qb,4,none⟩=some (.slice d.A4 g.prods.length d.c4)/\qb<w'.heap.size)
  (s:St noB W w (Zes vb ob (List.replicate T.length ((none,0,[]):GRow)))) :
  Ct Tryz.prog Zag.id #[putV vb,.pointer (some ⟨pw,0,none⟩),.pointer (some ⟨qb,0,none⟩)] w λ _ w'=>∃R:List GRow,R.length=T.length/\(∀(i:Nat) (x:GRow),R[i]?=some x->x.2.2.length<=1000000000/\∀y,y∈x.2.2↔IncQ g.prods ks T i y)/\St noB W w' (Zes vb ob R):=by
 refine Zag.ct λ Q hQ=>?_;have s0:=s.alloc #[putV vb] 192;have yp:=(hpw w s.chg).1;have ypl:=(hpw w s.chg).2;have y:=(h.f w s.chg).cells;have yl:=(h.f w s.chg).lt;simp[Zw]at y;rw[hTe]at y;unfold Zag.run;unfold putV;simp -dsimp[go_sem,yp,ypl,y,yl];have s0:St noB W (w.alloc (.cells #[.func (.func Za6.id) #[] #[.pointer (some ⟨vb,0,none⟩)]] 192)) (Zes vb ob (List.replicate T.length ((none,0,[]):GRow))++[boxC w.heap.size 192 [putV vb]]):=s0;generalize w.alloc (.cells #[.func (.func Za6.id) #[] #[.pointer (some ⟨vb,0,none⟩)]] 192)=w0 at s0 |-;generalize w.heap.size=pv at s0 |-;refine Zag.l3_intro _ _ _ _ _ _ _ _ (λ y w'=>∃(i:Nat) (R:List GRow),y = .int .i64 i/\i<=T.length/\R.length=T.length/\(∀(j:Nat) (x:GRow),R[j]?=some x->x.2.2.length<=i*24832/\∀y,y∈x.2.2↔∃i' p k q0,i'<i/\T[i']?=some (q0,lft g.prods p)/\0<p/\p<g.prods.length/\IncK g.prods ks T q0 p k j/\y=(i':Nat))/\St noB W w' (Zes vb ob R++[boxC pv 192 [putV vb]])) (λ y _=>T.length-iv y)
  ⟨0,_,rfl,Qy _,by rw[Qce],λ j x hx=>by
   have:=Qa0 (Qe hx)
   rw[this]
   exact ⟨by simp,λ y=>⟨λ h=>by simp at h,λ ⟨i',p,k,q0,h,_⟩=>absurd h (Qcs _)⟩⟩,s0⟩ ?_
 rintro _ w1 ⟨i,R,rfl,hi,hRl,hRR,s1⟩ C hC;simp -dsimp[go_sem];refine Za (λ p1=>?_) (λ p1=>?_)<;>simp at p1
 ·have wi:=wS i (by omega);have hW1:=h.keep s1.chg;obtain ⟨b,o,eAt,hb,x1,x2⟩:=Znv (T:=T) (n:=T.length) (c:=T.length) (by have:=hW1.here.tr;rw[hTe]at this;exact this) p1;have hT:T[i]?=some T[i]:=Qb p1;obtain ⟨e,he⟩:∃e,T[i]=e:=⟨_,rfl⟩;rw[he]at x1 x2 hT;obtain ⟨q,A⟩:=e;simp only at x1 x2;have hm:=Qe hT;rw[<-hTe,h.aut.mem_trL]at hm;obtain ⟨r,hgt⟩:=h.aut.au.gt hm.2;obtain ⟨g1,g2,g3,g4,g5,n,rfl,g6,g7⟩:=h.gt hgt;have s2:=(s1.alloc #[.int .i64 i] 3).alloc #[.int .i64 (q:Int),.int .i64 (n:Int)] 190;unfold Zag.b8;rw[eAt];simp -dsimp[go_sem,p1,x1,x2];have e1:(w1.alloc (.cells #[.int .i64 i] 3)).heap.size=w1.heap.size+1:=by simp
  rw[e1]at s2;generalize (w1.alloc (.cells #[.int .i64 i] 3)).alloc (.cells #[.int .i64 (q:Int),.int .i64 (n:Int)] 190)=w2 at s2 |-;generalize w1.heap.size+1=tb at s2 |-;generalize w1.heap.size=ib at s2 |-;have hW2:=h.keep s2.chg;have y2:=(s2.box 5 rfl).1;have yl2:=(s2.box 5 rfl).2.2;obtain ⟨yp,ypl⟩:=hpw _ s2.chg;have y3:=hW2.here.cells;have ylt:=hW2.here.lt;simp[Zw]at y2 y3;have hby:=(((hW2.keep (Chg.refl noB w2).drew).here).by_ (n:Int) ⟨by omega,by omega⟩).1;simp -dsimp[go_sem,y2,yl2,yp,ypl,y3,ylt,hby];refine Zwn hTe (by omega) h hpw hqb hT (by omega) (s2.old (Chg.refl noB w2).drew) hRl hRR (by omega) λ w' R' hR1 hR2 s'=>?_;unfold Zag.b6;simp -dsimp[go_sem,wi];refine hC _ _ ⟨i+1,R',by simp,by omega,hR1,λ j x hxj=>?_,s'⟩ (by simp[iv];omega);obtain ⟨b1,b2⟩:=hR2 j x hxj;refine ⟨by omega,λ y=>?_⟩;rw[b2];constructor
  ·rintro (⟨i',p,k,q0,c1,c2⟩|⟨p,k,c1,c2,c3⟩)
   ·exact ⟨i',p,k,q0,by omega,c2⟩
   ·obtain ⟨d1,d2,d3⟩:=Zir.1 c1;exact ⟨i,p,k,q,by omega,by rw[d3];exact hT,d1,d2,c2,c3⟩
  ·rintro ⟨i',p,k,q0,c1,c2,c3,c4,c5,c6⟩;by_cases e:i'=i
   ·subst e;rw[hT]at c2;injection c2 with c2;injection c2 with c2 c2';subst c2;exact Or.inr ⟨p,k,Zir.2 ⟨c3,c4,c2'.symm⟩,c5,c6⟩
   ·exact Or.inl ⟨i',p,k,q0,by omega,c2,c3,c4,c5,c6⟩
 ·have:i=T.length:=by omega
  subst this;refine hQ _ _ ⟨R,hRl,λ j x hx=>⟨by have:=(hRR j x hx).1;omega,λ y=>?_⟩,s1.take 3⟩;rw[(hRR j x hx).2];constructor
  ·rintro ⟨i',p,k,q0,c1,c2,c3,c4,c5,c6⟩;exact ⟨i',p,k,q0,c2,c3,c4,c5,c6⟩
  ·rintro ⟨i',p,k,q0,c2,c3,c4,c5,c6⟩;exact ⟨i',p,k,q0,(Qa.1 c2).1,c2,c3,c4,c5,c6⟩
end
theorem Zps {w:World}{B:Nat}{vg:Value}{g:Gr}(hg:Zb7.atN w B vg g)(hB:B<=w.heap.size)(hD:Deb w) :
  Ct Tryz.prog Za5.id #[vg] w λ v w'=>Chg noB w w'/\RelA (IncQ g.prods) g w' v:=by
 refine Za5.ct λ R hR=>?_;obtain ⟨A1,c1,A2,c2,A3,c3,A4,c4,rfl,⟨m1,m2,m3,m4⟩,hst,hc0,hgr⟩:=Zbg hg hB;have s1:=(St.refl noB w).alloc (gQ A1 c1 A2 c2 A3 c3 A4 c4 g) 27;have y1:=(hgr _ (Chg.refl _ _)).k;unfold Za5.run;simp -dsimp[go_sem,y1];have hg1:=Zx hg (s1.chg.below hB λ _ _=>id);have hB1:B<=(w.alloc (.cells (gQ A1 c1 A2 c2 A3 c3 A4 c4 g) 27)).heap.size:=by have:=s1.chg.size;omega
 have hql:w.heap.size<(w.alloc (.cells (gQ A1 c1 A2 c2 A3 c3 A4 c4 g) 27)).heap.size:=by simp
 clear hc0 y1;generalize w.alloc (.cells (gQ A1 c1 A2 c2 A3 c3 A4 c4 g) 27)=w1 at s1 hg1 hB1 hgr hql |-;generalize w.heap.size=qb at s1 hgr hql |-;refine Zi (Zmn hg1 hB1 (hD.chg s1.chg id)) ?_;rintro v w2 ⟨hc2,hres⟩;rcases hres with ⟨e,he,rfl⟩|⟨pb,ks,ess,d,rfl,hW,hvg⟩
 ·have hne:((e:Int) != 0)=true:=by rcases he with ⟨rfl,_⟩ | ⟨rfl,_⟩<;>rfl
  have s3:=(s1.old hc2).alloc #[.pointer none] 180;unfold Za5.b1_2;simp -dsimp[go_sem,hne];exact hR _ _ ⟨s3.chg,Or.inl ⟨e,he,rfl⟩⟩
 ·have s3:=(St.refl noB w2).alloc #[.pointer (some ⟨pb,0,none⟩)] 180;unfold Za5.b1_2;simp -dsimp[go_sem];have hW3:=hW.keep s3.chg;have hc3:=hc2.trans s3.chg;generalize w2.alloc (.cells #[.pointer (some ⟨pb,0,none⟩)] 180)=w3 at s3 hW3 hc3 |-;generalize w2.heap.size=pw at s3 |-;have y3:=(s3.box 0 rfl).1;simp[Zw]at y3;unfold Za5.b1_1;simp -dsimp[go_sem,y3];have hTl:=hW.aut.trLen g.terms.length;have hd4:d.A4=A4/\d.c4=c4:=by
   injection hvg with hvg;simp at hvg;exact ⟨hvg.2.2.2.1.symm,hvg.2.2.2.2.symm⟩
  refine Zi (Zrg hW3 (by omega) (IncQ g.prods ks (trL g.terms.length ess)) (λ i y ⟨i',p,k,q0,h1,_,_,_,h3⟩=>?_) λ w4 vb ob s4=>?_) ?_
  ·have:=(Qa.1 h1).1;subst h3;exact ⟨by omega,by omega⟩
  ·exact Znb rfl hTl hW3 (λ w' hc=>⟨((s3.old hc).box 0 rfl).1.1,((s3.old hc).box 0 rfl).2.2⟩) (λ w' hc=>⟨by rw[hd4.1,hd4.2];exact (hgr w' (hc3.trans hc)).k.2.2.2.2,Qaj hql (hc3.trans hc).size⟩) s4
  ·rintro v5 w5 ⟨E,hE1,hE2,hc5,hrows⟩;exact hR _ _ ⟨(s1.chg.trans hc3).trans hc5,Or.inr ⟨ks,ess,v5,E,hW.aut,rfl,hE1,hE2,hrows⟩⟩
end Go.Proofs.YtjibcckpehdbhaaGreatDoor
namespace Go.Px.Cn
open Go.Px Go.Px.Scan
def LbQ (P:Prs)(ks:List (List It))(T:List (Nat×Int))(q p:Nat)(y:Nat):Prop:=∃q0,T[y]?=some (q0,lft P p)/\0<p/\p<P.length/\Wk P ks q0 (rgt P p) q
end Go.Px.Cn
namespace Go.Proofs.YtjibcckpehdbhaaGreatDoor
open Go.Px Go.Px.Scan Go.Px.Cn Go.RowKit
attribute [-go_sem] Builtin.append_ Zf.b5 Zf.b11 Zf.b17 Zf.b16_1 Zf.b16_2 Zf.b13 Zf.b6 Zf.b3 Zf.b23 Zf.b28_1 Zf.b28_2 Zf.b25 Zf.b18 Zf.b1_1
theorem mLb:Zk1 Tryz.prog kTr 183 190 24 (.slice none 0 0) where
 tm:=Tryz.underlying183
 keyed:=Zwr
 key a _:=Zvs a
 zero w:=Tryz.zeroValue24 w
theorem mkLb (w:World):(Instr.makeMap 183 none).run Tryz.prog w = .ok (.map (some w.heap.size)) (w.alloc (.map #[] 0)):=by
 simp[Instr.makeMap,run_underlying Tryz.underlying183,go_sem]
theorem trLaw:Go.WideMaps.KeyLaw Tryz.prog 190:=deep_law (m:=2) (by omega) (by kernel_rfl) (by kernel_rfl) (by kernel_rfl)
theorem Zua {w:World}{a b:Value}:Ct Tryz.prog Zc0.id #[a,b] w λ _ w'=>w=w':=by
 refine Zc0.ct λ R hR=>?_;unfold Zc0.run;simp -dsimp[go_sem];exact hR _ _ rfl
section
variable {W:World} {pb qb tb:Nat} {g:Gr} {ks:List (List It)} {ess:List (List (Int×Nat))} {d:Wd}
def lbL (vm:Value)(n:Nat)(E:List (Ent (UInt16×UInt16) Nat)):List Ch:=[Zdt Tryz.prog kTr 190 vm n (fE E),Ch.all (Zdu 3 1 cN E)]
theorem Zyt {w:World}{vm:Value}{n0:Nat}{E0:List (Ent (UInt16×UInt16) Nat)}{T:List (Nat×Int)}{q0 i n:Nat}{D:Nat->Nat->Nat->Prop}{N:Nat}{Q:EP}{C3:VP}(hTe:trL g.terms.length ess=T)(h:WoR W pb g ks ess d)
  (hqb:∀w',Chg noB W w'->w'.cell? ⟨qb,4,none⟩=some (.slice d.A4 g.prods.length d.c4)/\qb<w'.heap.size)
  (hT:T[i]?=some (q0,(n:Int))) (hi:i<=40000)
  (s:St noB W w (lbL vm n0 E0++[boxC tb 190 [.int .i64 q0,.int .i64 n]])) (hnd:(E0.map (·.1)).Nodup) (hn0:n0<=N) (hRR:∀q p,q<65536->p<65536->(vE E0 (tr q p)).length<=N/\∀y,y∈vE E0 (tr q p)↔D q p y) (hN:N<=10000000)
  (hgo:∀w' n' (E:List (Ent (UInt16×UInt16) Nat)),n'<=N+97->(E.map (·.1)).Nodup->(∀q p,q<65536->p<65536->(vE E (tr q p)).length<=N+97/\∀y,y∈vE E (tr q p)↔D q p y\/(p∈byQ g.prods n/\Wk g.prods ks q0 (rgt g.prods p) q/\y=i))->St noB W w' (lbL vm n' E)->Zf.b23 Q C3 (.int .i64 i) w') :
  Zf.l27 Q C3 (.pointer (some ⟨qb,0,none⟩)) (.pointer (some ⟨pb,0,none⟩)) vm (.int .i64 i) (.pointer (some ⟨tb,0,none⟩)) (.int .i64 i) (.slice (d.pA n) (byQ g.prods n).length (d.pc n)) (.int .i64 (byQ g.prods n).length) (.int .i64 0) w:=by
 have hbl:(byQ g.prods n).length<=97:=Qav Zu2 h.aut.cl.prods.c1;have htr:Tr g.prods ks q0 (n:Int):=by
  have hm:=Qe hT;rw[<-hTe,h.aut.mem_trL]at hm;exact hm.2
 obtain ⟨r0,hg0⟩:=h.aut.au.gt htr;obtain ⟨hq0,_,_,_,_,n',hn',hn6,_⟩:=h.gt hg0;have:n'=n:=by omega
 subst this;refine Zf.l27_intro _ _ _ _ _ _ _ _ _ _ _ _ (λ y w'=>∃(m nn:Nat) (E:List (Ent (UInt16×UInt16) Nat)),y = .int .i64 m/\m<=(byQ g.prods n').length/\nn<=N+m/\(E.map (·.1)).Nodup/\(∀q p,q<65536->p<65536->(vE E (tr q p)).length<=N+m/\∀y,y∈vE E (tr q p)↔D q p y\/(p∈(byQ g.prods n').take m/\Wk g.prods ks q0 (rgt g.prods p) q/\y=i))/\St noB W w' (lbL vm nn E++[boxC tb 190 [.int .i64 q0,.int .i64 n']])) (λ y _=>(byQ g.prods n').length-iv y)
  ⟨0,n0,E0,rfl,Qy _,hn0,hnd,λ q p hq hp=>⟨by have:=(hRR q p hq hp).1;omega,λ y=>by rw[(hRR q p hq hp).2];simp⟩,s⟩ ?_
 rintro _ w1 ⟨m,nn,E,rfl,hm,hnn,hnd1,hRR1,s1⟩ C hC;simp -dsimp[go_sem];refine Za (λ p1=>?_) (λ p1=>?_)<;>simp at p1
 ·have wm:=wS m (by omega);have hW1:=h.keep s1.chg;have hf:=hW1.here;obtain ⟨p,hp⟩:∃p,(byQ g.prods n')[m]=p:=⟨_,rfl⟩;have hpm:(byQ g.prods n')[m]?=some p:=by rw[Qb p1,hp]
  obtain ⟨hp0,hpl,hlf⟩:=Zir.1 (Qe hpm);obtain ⟨gb,egb,hcb⟩:=(hf.by_ (n':Int) ⟨by omega,by omega⟩).2 m p hpm;obtain ⟨bp,op,Ar,cr,eA4,hbp,x2,hr⟩:=hf.prod hpl;obtain ⟨yq,yql⟩:=hqb w1 s1.chg;have hx:=h.aut.au.cl hpl (hlf ▸ htr);have hrl:=h.aut.rlen hx;have hpc:=h.aut.cl.prods.c1;obtain ⟨qe,hwk,_⟩:=h.aut.au.along hx _ (Ql _);rw[Qm]at hwk;obtain ⟨qs,e1,e2,e3⟩:=Zo4 hwk;have y2:=(s1.box 2 rfl).1;have yl2:=(s1.box 2 rfl).2.2;simp[Zw]at y2;rw[eA4]at yq;rw[egb];unfold Zf.b28_2;simp -dsimp[go_sem,p1,hcb,yq,yql,hpl,x2,hbp,y2,yl2];have s2:=s1.old (Chg.refl noB w1).drew;have hrW:∀w',Chg noB W w'->(Zq rInt).at1 w' W.heap.size (.slice Ar (rgt g.prods p).length cr) (rgt g.prods p):=λ w' hc=>by
   obtain ⟨bp',op',Ar',cr',eA',_,x2',hr'⟩:=h.here.prod hpl;rw[eA4]at eA';injection eA' with eA';injection eA' with e5 e6;subst e5 e6;have:=s1.chg.at x2' id;rw[x2]at this;injection this with this;injection this with t1 t2 t3;subst t1 t3;exact Rep.below hr' (hc.below (Ql _) λ _ _=>id)
  obtain rfl:q0=qs 0:=e1.symm;refine Zi (Zrk (B:=W.heap.size) (qs:=qs) (l:=rgt g.prods p) (λ k w'=>St noB W w' (lbL vm nn E++[boxC tb 190 [.int .i64 (qs 0),.int .i64 n']])) s2 (λ k w' s'=>h.keep s'.chg) (λ k w' s'=>hrW w' s'.chg) (by omega) e3 λ k hk w' s'=>Zua.mono λ _ _ e=>e ▸ s') ?_;rintro _ w2 ⟨rfl,s3⟩;rw[e2];have hqe:qe<65536:=by
   by_cases h0:(rgt g.prods p).length=0
   ·rw[h0]at e2;omega
   ·have:=e3 ((rgt g.prods p).length-1) (by omega);obtain ⟨_,g2,_⟩:=h.gt this;rw[show (rgt g.prods p).length-1+1=(rgt g.prods p).length by omega,e2]at g2;omega
  have s4:=(s3.alloc #[.int .i64 (qe:Int),.int .i64 (p:Int)] 190).lit 3 1 1 #[.int .i64 i] (by simp[maxLen]) rfl;unfold Zf.b28_1;simp -dsimp[go_sem];have e5:(w2.alloc (.cells #[.int .i64 (qe:Int),.int .i64 (p:Int)] 190)).heap.size=w2.heap.size+1:=by simp
  rw[e5]at s4;generalize (w2.alloc (.cells #[.int .i64 (qe:Int),.int .i64 (p:Int)] 190)).alloc (.cells #[.int .i64 i] 3)=w3 at s4 |-;generalize w2.heap.size+1=rb at s4 |-;obtain ⟨b,st,w4,es,clock,rfl,hrun,s5,post⟩:=s4.mapVEntry mLb trLaw 0 rfl (tr qe p) trivial (by unfold maxLen;omega);rw[Ziz hqe (by omega)]at hrun;simp -dsimp[go_sem,hrun,goInt];obtain ⟨b5,eb5,hc5,_⟩:=s5.rowAt 4 rfl (j:=0) (by simp);injection eb5 with eb5;injection eb5 with eb5;subst eb5;obtain ⟨hl5,hm5⟩:=hRR1 qe p hqe (by omega);refine s5.grpAppend 1 rfl hnd1 (λ _=>rfl) (λ x u hu=>by simp[cN]at hu;subst hu;rfl) Zgn iInt rfl (by decide) (tr qe p) i (λ j u hj=>?_) (by unfold maxLen;omega) (by unfold Zaf;omega) ?_
  ·match j,hj with
   | 0,hj=>simp[cN]at hj;subst hj;exact hc5
   | j+1,hj=>simp[cN]at hj
  intro E' v' w5 h1 h2 h3 h4 h5 h6 h7 s6;obtain ⟨w6,hrun6,s7⟩:=post _ _ _ _ 0 s6 rfl v' (fE E') h2 h3;simp -dsimp[go_sem,hrun6,wm];unfold goInt at hrun6;simp -dsimp[go_sem,hrun6,wm];refine hC _ _ ⟨m+1,nn+1,E',by simp,by omega,by omega,h1,λ q' p' hq' hp'=>?_,s7.take 3⟩ (by simp[iv];omega);rw[Qd p1,hp];by_cases e:tr q' p'=tr qe p
  ·obtain ⟨rfl,rfl⟩:=(ZZ188 hq' hp' hqe (by omega)).1 e;rw[h4];refine ⟨by rw[Qq];simp;omega,λ y=>?_⟩;rw[Qk,hm5,Qg];constructor
   ·rintro ((hd|⟨a1,a2,a3⟩)|rfl)
    ·exact Or.inl hd
    ·exact Or.inr ⟨Q0 _ a1,a2,a3⟩
    ·exact Or.inr ⟨by simp,hwk,rfl⟩
   ·rintro (hd|⟨a1,a2,a3⟩)
    ·exact Or.inl (Or.inl hd)
    ·exact Or.inr a3
  ·rw[h5 _ e];obtain ⟨a1,a2⟩:=hRR1 q' p' hq' hp';refine ⟨by omega,λ y=>?_⟩;rw[a2];refine or_congr_right ⟨λ ⟨b1,b2,b3⟩=>⟨Q0 _ b1,b2,b3⟩,λ ⟨b1,b2,b3⟩=>⟨?_,b2,b3⟩⟩;rcases Qk.1 b1 with b1|b1
   ·exact b1
   ·rw[Qg]at b1;subst b1;exact absurd (by rw[h.aut.au.wuniq b2 hwk]) e
 ·have:m=(byQ g.prods n').length:=by omega
  subst this;rw[Qm]at hRR1;exact hgo w1 nn E (by omega) hnd1 (λ q p hq hp=>⟨by have:=(hRR1 q p hq hp).1;omega,(hRR1 q p hq hp).2⟩) (s1.take 2)
end
end Go.Proofs.YtjibcckpehdbhaaGreatDoor
namespace Go.Px.Cn
open Go.Px Go.Px.Scan
def Zft (f:Nat->Nat->List Nat)(q m:Nat):List (Nat×Nat×List Nat):=(List.range m).flatMap λ p=>if f q p=[] then [] else [(q,p,f q p)]
def Ze3 (f:Nat->Nat->List Nat)(nP n:Nat):List (Nat×Nat×List Nat):=(List.range n).flatMap λ q=>Zft f q nP
theorem Zli (f:Nat->Nat->List Nat)(q m:Nat):Zft f q (m+1)=Zft f q m++if f q m=[] then [] else [(q,m,f q m)]:=by
 unfold Zft;rw[Qch,Qab];simp
theorem Zk8 (f:Nat->Nat->List Nat)(nP n:Nat):Ze3 f nP (n+1)=Ze3 f nP n++Zft f n nP:=by
 unfold Ze3;rw[Qch,Qab];simp
theorem Zn0 (f:Nat->Nat->List Nat)(q m:Nat):(Zft f q m).length<=m:=by
 induction m with
 | zero=>simp[Zft]
 | succ m ih=>
  rw[Zli,Qq];split<;>simp<;>omega
theorem Znw (f:Nat->Nat->List Nat)(nP n:Nat):(Ze3 f nP n).length<=n*nP:=by
 induction n with
 | zero=>simp[Ze3]
 | succ n ih=>
  rw[Zk8,Qq,Qbw];have:=Zn0 f n nP;omega
theorem Zf7 {f:Nat->Nat->List Nat}{nP n:Nat}{x:Nat×Nat×List Nat}:x∈Ze3 f nP n↔x.1<n/\x.2.1<nP/\x.2.2=f x.1 x.2.1/\x.2.2≠[]:=by
 obtain ⟨q,p,l⟩:=x;unfold Ze3 Zft;simp only[Qbh,Qbg];constructor
 ·rintro ⟨q',h1,p',h2,h3⟩;split at h3
  ·cases h3
  ·rename_i hne;rw[Qg]at h3;injection h3 with e1 e2;injection e2 with e2 e3;subst e1 e2;exact ⟨h1,h2,e3,by rw[e3];exact hne⟩
 ·rintro ⟨h1,h2,h3,h4⟩;refine ⟨q,h1,p,h2,?_⟩;rw[if_neg (by rw[<-h3];exact h4),Qg,h3]
end Go.Px.Cn
namespace Go.Proofs.YtjibcckpehdbhaaGreatDoor
open Go.Px Go.Px.Scan Go.Px.Cn Go.RowKit
attribute [-go_sem] Builtin.append_ Zf.b5 Zf.b11 Zf.b17 Zf.b16_1 Zf.b16_2 Zf.b13 Zf.b6 Zf.b3 Zf.b23 Zf.b28_1 Zf.b28_2 Zf.b25 Zf.b18 Zf.b1_1
theorem uBack:Tryz.prog.underlying 69=some (.slice 73):=Tryz.underlying69
theorem iBack:(Tryz.prog.info? 73).map (λ i=>(i.zero,i.size,i.bytes))=some (some (.agg #[.int .i64 0,.int .i64 0,.slice none 0 0]),3,40):=by kernel_rfl
theorem bBack (x y:Int)(A:Option Addr)(n c:Nat)(w:World):(Instr.build 73 #[(0,.int .i64 x),(1,.int .i64 y),(2,.slice A n c)]).run Tryz.prog w = .ok (.agg #[.int .i64 x,.int .i64 y,.slice A n c]) w:=by simp[go_sem]
attribute [go_sem ↓] bBack
theorem Zxp {w:World}{a:Option Addr}{n c:Nat}(h:n<=c):Ct Tryz.prog Za3.id #[.slice a n c] w λ v w'=>v = .slice a n n/\w=w':=by
 refine Za3.ct λ R hR=>?_;unfold Za3.run
 cases a with
 | none=>
  simp -dsimp[go_sem,h];exact hR _ _ ⟨rfl,rfl⟩
 | some a=>
  simp -dsimp[go_sem,h];exact hR _ _ ⟨rfl,rfl⟩
section
variable {W:World} {pb qb:Nat} {g:Gr} {ks:List (List It)} {ess:List (List (Int×Nat))} {d:Wd}
theorem Zy7 {w:World}{vm:Value}{T:List (Nat×Int)}{R:EP}(hTe:trL g.terms.length ess=T)(hTl:T.length<=33280)(h:WoR W pb g ks ess d)
  (hqb:∀w',Chg noB W w'->w'.cell? ⟨qb,4,none⟩=some (.slice d.A4 g.prods.length d.c4)/\qb<w'.heap.size)
  (s:St noB W w (lbL vm 0 []))
  (hgo:∀w' n' (E:List (Ent (UInt16×UInt16) Nat)),(E.map (·.1)).Nodup->(∀q p,q<65536->p<65536->(vE E (tr q p)).length<=10000000/\∀y,y∈vE E (tr q p)↔LbQ g.prods ks T q p y)->St noB W w' (lbL vm n' E)->Zf.b3 R (.pointer (some ⟨qb,0,none⟩)) (.pointer (some ⟨pb,0,none⟩)) vm w') :
  Zf.b18 R (.pointer (some ⟨qb,0,none⟩)) (.pointer (some ⟨pb,0,none⟩)) vm w:=by
 have y:=(h.f w s.chg).cells;simp[Zw]at y;rw[hTe]at y;unfold Zf.b18;simp -dsimp[go_sem,y];refine Zf.l20_intro _ _ _ _ _ _ _ _ (λ y w'=>∃(i nn:Nat) (E:List (Ent (UInt16×UInt16) Nat)),y = .int .i64 i/\i<=T.length/\nn<=i*97/\(E.map (·.1)).Nodup/\(∀q p,q<65536->p<65536->(vE E (tr q p)).length<=i*97/\∀y,y∈vE E (tr q p)↔y<i/\LbQ g.prods ks T q p y)/\St noB W w' (lbL vm nn E)) (λ y _=>T.length-iv y)
  ⟨0,0,[],rfl,Qy _,by omega,by simp,λ q p _ _=>by simp[vE],s⟩ ?_
 rintro _ w1 ⟨i,nn,E,rfl,hi,hnn,hnd,hRR,s1⟩ C hC;simp -dsimp[go_sem];refine Za (λ p1=>?_) (λ p1=>?_)<;>simp at p1
 ·have wi:=wS i (by omega);have hW1:=h.keep s1.chg;obtain ⟨b,o,eAt,hb,x1,x2⟩:=Znv (T:=T) (n:=T.length) (c:=T.length) (by have:=hW1.here.tr;rw[hTe]at this;exact this) p1;have hT:T[i]?=some T[i]:=Qb p1;obtain ⟨e,he⟩:∃e,T[i]=e:=⟨_,rfl⟩;rw[he]at x1 x2 hT;obtain ⟨q,A⟩:=e;simp only at x1 x2;have hm:=Qe hT;rw[<-hTe,h.aut.mem_trL]at hm;obtain ⟨r,hgt⟩:=h.aut.au.gt hm.2;obtain ⟨g1,g2,g3,g4,g5,n,rfl,g6,g7⟩:=h.gt hgt;have s2:=s1.alloc #[.int .i64 (q:Int),.int .i64 (n:Int)] 190;unfold Zf.b25;rw[eAt];simp -dsimp[go_sem,p1,x1,x2];generalize w1.alloc (.cells #[.int .i64 (q:Int),.int .i64 (n:Int)] 190)=w2 at s2 |-;generalize w1.heap.size=tb at s2 |-;have hW2:=h.keep s2.chg;have y2:=(s2.box 2 rfl).1;have yl2:=(s2.box 2 rfl).2.2;have y3:=hW2.here.cells;have ylt:=hW2.here.lt;simp[Zw]at y2 y3;have hby:=(((hW2.keep (Chg.refl noB w2).drew).here).by_ (n:Int) ⟨by omega,by omega⟩).1;simp -dsimp[go_sem,y2,yl2,y3,ylt,hby];refine Zyt (D:=λ q p y=>y<i/\LbQ g.prods ks T q p y) hTe h hqb hT (by omega) (s2.old (Chg.refl noB w2).drew) hnd hnn hRR (by omega) λ w' n' E' hn' hnd' hR2 s'=>?_;unfold Zf.b23;simp -dsimp[go_sem,wi];refine hC _ _ ⟨i+1,n',E',by simp,by omega,by omega,hnd',λ q' p' hq' hp'=>?_,s'⟩ (by simp[iv];omega);obtain ⟨b1,b2⟩:=hR2 q' p' hq' hp';refine ⟨by omega,λ y=>?_⟩;rw[b2];constructor
  ·rintro (⟨c1,c2⟩|⟨c1,c2,rfl⟩)
   ·exact ⟨by omega,c2⟩
   ·obtain ⟨d1,d2,d3⟩:=Zir.1 c1;exact ⟨by omega,q,by rw[d3];exact hT,d1,d2,c2⟩
  ·rintro ⟨c1,c2⟩;by_cases e:y=i
   ·subst e;obtain ⟨q0,d1,d2,d3,d4⟩:=c2;rw[hT]at d1;injection d1 with d1;injection d1 with d1 d1';subst d1;exact Or.inr ⟨Zir.2 ⟨d2,d3,d1'.symm⟩,d4,rfl⟩
   ·exact Or.inl ⟨by omega,c2⟩
 ·have:i=T.length:=by omega
  subst this;refine hgo w1 nn E hnd (λ q p hq hp=>⟨by have:=(hRR q p hq hp).1;omega,λ y=>?_⟩) s1;rw[(hRR q p hq hp).2];exact ⟨λ h=>h.2,λ h=>⟨by obtain ⟨q0,d1,_⟩:=h;exact (Qa.1 d1).1,h⟩⟩
end
def Zr4 (w:World)(v:Value)(l:List (Nat×Nat×List Nat)):Prop:=∃A c,v = .slice A l.length c/\∀(j:Nat) x,l[j]?=some x->∃b o a,A=some ⟨b,o,none⟩/\b<w.heap.size/\w.cell? ⟨b,o+j*3,none⟩=some (.int .i64 x.1)/\w.cell? ⟨b,o+j*3+1,none⟩=some (.int .i64 x.2.1)/\w.cell? ⟨b,o+j*3+2,none⟩=some (.slice a x.2.2.length x.2.2.length)/\(Zq rInt).at1 w w.heap.size (.slice a x.2.2.length x.2.2.length) (x.2.2.map λ y:Nat=>(y:Int))
theorem Zr4.keep {w w':World}{v:Value}{l:List (Nat×Nat×List Nat)}(h:Zr4 w v l)(hc:Chg noB w w'):Zr4 w' v l:=by
 obtain ⟨A,c,rfl,h⟩:=h;refine ⟨A,c,rfl,λ j x hx=>?_⟩;obtain ⟨b,o,a,e,hb,h1,h2,h3,h4⟩:=h j x hx;exact ⟨b,o,a,e,Qaj hb hc.size,hc.at h1 id,hc.at h2 id,hc.at h3 id,Rep.up (Rep.below h4 (hc.below (Ql _) λ _ _=>id)) hc.size⟩
def aE (E:List (Ent (UInt16×UInt16) Nat))(c:UInt16×UInt16):Option Addr:=((E.find? λ x=>x.1=c).map (·.2.1)).getD none
def capE (E:List (Ent (UInt16×UInt16) Nat))(c:UInt16×UInt16):Nat:=((E.find? λ x=>x.1=c).map (·.2.2.1)).getD 0
theorem ZZ199 (E:List (Ent (UInt16×UInt16) Nat))(c:UInt16×UInt16):(fE E c).getD (.slice none 0 0) = .slice (aE E c) (vE E c).length (capE E c):=by
 unfold fE vE aE capE
 cases E.find? (λ x=>x.1=c) with
 | none=>rfl
 | some x=>rfl
def bkV (E:List (Ent (UInt16×UInt16) Nat))(x:Nat×Nat×List Nat):List Value:=[.int .i64 x.1,.int .i64 x.2.1,.slice (aE E (tr x.1 x.2.1)) x.2.2.length x.2.2.length]
section
variable {W:World} {pb qb:Nat} {g:Gr} {ks:List (List It)} {ess:List (List (Int×Nat))} {d:Wd}
theorem Zzx {w:World}{vm:Value}{nn:Nat}{E:List (Ent (UInt16×UInt16) Nat)}{M:List Ch}(s:St noB W w (lbL vm nn E++M))(c:UInt16×UInt16):(vE E c).length<=capE E c/\((vE E c).length<=10000000->(∀y∈vE E c,y<1000000000)->(Zq rInt).at1 w w.heap.size (.slice (aE E c) (vE E c).length (vE E c).length) ((vE E c).map λ y:Nat=>(y:Int))):=by
 cases hf:E.find? (λ x=>decide (x.1=c)) with
 | none=>
  have e1:vE E c=[]:=by unfold vE;rw[hf];rfl
  have e2:aE E c=none:=by unfold aE;rw[hf];rfl
  rw[e1,e2];exact ⟨by simp,λ _ _=>⟨none,0,rfl,by simp,by unfold maxLen;omega,trivial,λ h=>absurd h (by simp)⟩⟩
 | some x=>
  obtain ⟨j,hj,hxs⟩:=Zju hf;have e1:vE E c=x.2.2.2:=by unfold vE;rw[hf];rfl
  have e2:aE E c=x.2.1:=by unfold aE;rw[hf];rfl
  have e3:capE E c=x.2.2.1:=by unfold capE;rw[hf];rfl
  rw[e1,e2,e3];obtain ⟨F,s6,_⟩:=s.inAll' 1 rfl;have hkr:(Zdu 3 1 cN E)[j]?=some (rowC 3 1 x.2.1 x.2.2.2.length x.2.2.1 (x.2.2.2.flatMap cN)):=by unfold Zdu;rw[Qh,hj];rfl
  obtain ⟨F7,ho,_⟩:=s6.get hkr;obtain ⟨h1,h2,h3⟩:=Zee ho;refine ⟨h2,λ hl hb=>?_⟩;have e4:x.2.2.2.flatMap cN=(x.2.2.2.map λ y:Nat=>(y:Int)).flatMap λ y=>[Value.int .i64 y]:=by
   rw[Qdp];rfl
  rw[e4]at ho;have:=Zki (r:=rInt) (enc:=λ y:Int=>[Value.int .i64 y]) (c':=x.2.2.2.length) ho (by simp) (λ _ _=>rfl) (by decide) (λ B y hy=>⟨rfl,?_⟩) (by omega) (by omega)
  ·exact this
  ·obtain ⟨m,hm,rfl⟩:=Qr.1 hy;have:=hb m hm;exact ⟨by omega,by omega⟩
theorem Zwb {w:World}{vm:Value}{nn:Nat}{E:List (Ent (UInt16×UInt16) Nat)}{R:EP}(h:WoR W pb g ks ess d)
  (hqb:∀w',Chg noB W w'->w'.cell? ⟨qb,4,none⟩=some (.slice d.A4 g.prods.length d.c4)/\qb<w'.heap.size) (hE:∀q p,q<65536->p<65536->(vE E (tr q p)).length<=10000000/\∀y∈vE E (tr q p),y<1000000000)
  (s:St noB W w (lbL vm nn E))
  (hgo:∀w' v,Chg noB W w'->Zr4 w' v (Ze3 (λ q p=>vE E (tr q p)) g.prods.length ks.length)->R (.returned (.tuple #[v,.int .i64 0])) w') :
  Zf.b3 R (.pointer (some ⟨qb,0,none⟩)) (.pointer (some ⟨pb,0,none⟩)) vm w:=by
 have hkl:=h.aut.len;have hpl:=h.aut.cl.prods.c1;obtain ⟨f,hf⟩:∃f:Nat->Nat->List Nat,(λ q p=>vE E (tr q p))=f:=⟨_,rfl⟩;have hfe:∀q p,f q p=vE E (tr q p):=λ q p=>by rw[<-hf]
 rw[hf]at hgo;have y:=(h.f w s.chg).cells;simp[Zw]at y;have hbound:∀q p,q<=ks.length->p<=g.prods.length->(Ze3 f g.prods.length q++Zft f q p).length<=30000:=λ q p hq hp=>by
  rw[Qq];have h1:=Znw f g.prods.length q;have h2:=Zn0 f q p;have h3:q*g.prods.length<=256*97:=Qco (by omega) hpl;omega
 unfold Zf.b3 Zf.b6;simp -dsimp[go_sem,y];refine Zf.l8_intro _ _ _ _ _ _ _ (λ x y w'=>∃(q:Nat) (A:Option Addr) (c:Nat),x = .slice A (Ze3 f g.prods.length q).length c/\y = .int .i64 q/\q<=ks.length/\St noB W w' (lbL vm nn E++[rowC 73 3 A (Ze3 f g.prods.length q).length c ((Ze3 f g.prods.length q).flatMap (bkV E))])) (λ _ y _=>ks.length-iv y)
  ⟨0,none,0,by simp[Ze3],rfl,Qy _,s.nilRow 73 3⟩ ?_
 rintro _ _ w1 ⟨q,A,c,rfl,rfl,hq,s1⟩ C hC;simp -dsimp[go_sem];refine Za (λ p1=>?_) (λ p1=>?_)<;>simp at p1
 ·have wq:=wS q (by omega);obtain ⟨yq,yql⟩:=hqb w1 s1.chg;unfold Zf.b13;simp -dsimp[go_sem,yq];refine Zf.l15_intro _ _ _ _ _ _ _ _ _ (λ x y w'=>∃(p:Nat) (A:Option Addr) (c:Nat),x = .slice A (Ze3 f g.prods.length q++Zft f q p).length c/\y = .int .i64 p/\p<=g.prods.length/\St noB W w' (lbL vm nn E++[rowC 73 3 A (Ze3 f g.prods.length q++Zft f q p).length c ((Ze3 f g.prods.length q++Zft f q p).flatMap (bkV E))])) (λ _ y _=>g.prods.length-iv y)
   ⟨0,A,c,by simp[Zft],rfl,Qy _,by simpa[Zft]using s1⟩ ?_
  rintro _ _ w2 ⟨p,A2,c2,rfl,rfl,hp,s2⟩ C2 hC2;have hbd:=hbound q p (by omega) hp;have hbd':=hbound q (p+1) (by omega);obtain ⟨l0,hl0⟩:∃l0,Ze3 f g.prods.length q++Zft f q p=l0:=⟨_,rfl⟩;rw[hl0]at hbd s2 |-;simp -dsimp[go_sem];refine Za (λ p2=>?_) (λ p2=>?_)<;>simp at p2
  ·have wp:=wS p (by omega);have hlk:(Instr.lookup 183 vm (kTr.val (tr q p)) false).run Tryz.prog w2=_:=s2.mapVGet mLb 0 rfl (tr q p) trivial;rw[Ziz (by omega) (by omega),ZZ199,<-hfe]at hlk;obtain ⟨hcap,_⟩:=Zzx s2 (tr q p);rw[<-hfe]at hcap;have hrow:=Zli f q p;rw[hrow,<-Q5,hl0]at hbd';have up:∀w' A' c',St noB W w' (lbL vm nn E++[rowC 73 3 A' (l0++if f q p=[] then [] else [(q,p,f q p)]).length c' ((l0++if f q p=[] then [] else [(q,p,f q p)]).flatMap (bkV E))])->C2 (.slice A' (l0++if f q p=[] then [] else [(q,p,f q p)]).length c') (.int .i64 ((p:Int)+1)) w':=λ w' A' c' s'=>by
    refine hC2 _ _ _ ⟨p+1,A',c',?_,by simp,by omega,?_⟩ (by simp[iv];omega)
    ·rw[hrow,<-Q5,hl0]
    ·rw[hrow,<-Q5,hl0];exact s'
   unfold Zf.b16_2;simp -dsimp[go_sem,hlk];refine Za (λ p3=>?_) (λ p3=>?_)<;>simp at p3
   ·have hne:f q p≠[]:=λ e=>by rw[e]at p3;simp at p3
    rw[if_neg hne]at up;refine Zi (Zmd hcap) ?_;rintro _ _ ⟨rfl,rfl⟩;unfold Zf.b16_1;simp -dsimp[go_sem];refine s2.append1 2 (e:=73) (size:=3) (a0:=A2) (n:=l0.length) (c:=c2) (xs:=l0.flatMap (bkV E)) rfl uBack iBack rfl (by decide) (news:=[.int .i64 q,.int .i64 p,.slice (aE E (tr q p)) (f q p).length (f q p).length]) rfl (by simp[Value.oneCell']) (by unfold maxLen;omega) (by unfold Zaf;omega) ?_;intro gA cap w4 s4;unfold Zf.b17;simp -dsimp[go_sem,wp];have e3:(l0++[((q,p,f q p):Nat×Nat×List Nat)]).length=l0.length+1:=by simp
    have:=up w4 (some ⟨gA,0,none⟩) cap (by rw[e3,Qab];exact s4);rw[e3]at this;exact this
   ·have hne:f q p=[]:=by simpa using p3
    rw[if_pos hne,Qas]at up;unfold Zf.b17;simp -dsimp[go_sem,wp];exact up w2 A2 c2 s2
  ·have:p=g.prods.length:=by omega
   subst this;rw[<-Zk8]at hl0;subst hl0;unfold Zf.b11;simp -dsimp[go_sem,wq];exact hC _ _ _ ⟨q+1,A2,c2,rfl,by simp,by omega,s2⟩ (by simp[iv];omega)
 ·have:q=ks.length:=by omega
  subst this;obtain ⟨_,hnc,_⟩:=s1.rowSize 2 rfl;unfold Zf.b5;refine Zi (Zxp hnc) ?_;rintro _ _ ⟨rfl,rfl⟩;refine hgo w1 _ s1.chg ⟨A,_,rfl,λ j x hx=>?_⟩;obtain ⟨F,ho,_⟩:=s1.get (k:=2) rfl;obtain ⟨gA,eA,hc,_,_,hlt⟩:=Zck ho (λ _ _=>rfl) (by decide) hx;obtain ⟨h1,h2,h3,h4⟩:=Zf7.1 (Qe hx);have hxq:x.1<65536:=by omega
  have hxp:x.2.1<65536:=by omega
  have h0:=hc 0 _ rfl;have h01:=hc 1 _ rfl;have h02:=hc 2 _ rfl;obtain ⟨_,hrd⟩:=Zzx s1 (tr x.1 x.2.1);have hrd:=hrd (hE _ _ hxq hxp).1 (hE _ _ hxq hxp).2;rw[<-hfe,<-h3]at hrd;exact ⟨gA,0,aE E (tr x.1 x.2.1),eA,hlt,by simpa using h0,by simpa using h01,by simpa using h02,hrd⟩
end
theorem Zic (a b:Value)(w:World):(Instr.extract (.tuple #[a,b]) 0).run Tryz.prog w = .ok a w:=by simp[go_sem]
theorem Zh6 (a b:Value)(w:World):(Instr.extract (.tuple #[a,b]) 1).run Tryz.prog w = .ok b w:=by simp[go_sem]
def LbA (g:Gr)(w':World)(v:Value):Prop:=(∃e:Nat,NoAut g e/\v = .tuple #[.slice none 0 0,.int .i64 e]) \/
 ∃ks ess vv f,AutP g ks ess/\v = .tuple #[vv,.int .i64 0]/\(∀q p,q<65536->p<65536->∀y,y∈f q p↔LbQ g.prods ks (trL g.terms.length ess) q p y)/\Zr4 w' vv (Ze3 f g.prods.length ks.length)
theorem Zox {w:World}{B:Nat}{vg:Value}{g:Gr}(hg:Zb7.atN w B vg g)(hB:B<=w.heap.size)(hD:Deb w) :
  Ct Tryz.prog Zf.id #[vg] w λ v w'=>Chg noB w w'/\LbA g w' v:=by
 refine Zf.ct λ R hR=>?_;obtain ⟨A1,c1,A2,c2,A3,c3,A4,c4,rfl,⟨m1,m2,m3,m4⟩,hst,hc0,hgr⟩:=Zbg hg hB;have s1:=(St.refl noB w).alloc (gQ A1 c1 A2 c2 A3 c3 A4 c4 g) 27;have y1:=(hgr _ (Chg.refl _ _)).k;unfold Zf.run;simp -dsimp[go_sem,y1];have hg1:=Zx hg (s1.chg.below hB λ _ _=>id);have hB1:B<=(w.alloc (.cells (gQ A1 c1 A2 c2 A3 c3 A4 c4 g) 27)).heap.size:=by have:=s1.chg.size;omega
 have hql:w.heap.size<(w.alloc (.cells (gQ A1 c1 A2 c2 A3 c3 A4 c4 g) 27)).heap.size:=by simp
 clear hc0 y1;generalize w.alloc (.cells (gQ A1 c1 A2 c2 A3 c3 A4 c4 g) 27)=w1 at s1 hg1 hB1 hgr hql |-;generalize w.heap.size=qb at s1 hgr hql |-;refine Zi (Zmn hg1 hB1 (hD.chg s1.chg id)) ?_;rintro v w2 ⟨hc2,hres⟩;rcases hres with ⟨e,he,rfl⟩|⟨pb,ks,ess,d,rfl,hW,hvg⟩
 ·have hne:((e:Int) != 0)=true:=by rcases he with ⟨rfl,_⟩ | ⟨rfl,_⟩<;>rfl
  unfold Zf.b1_1;rw[Ur_eq,Zic,Zb2,Ur_eq,Zh6,Zb2];simp -dsimp[go_sem,hne];exact hR _ _ ⟨(s1.old hc2).chg,Or.inl ⟨e,he,rfl⟩⟩
 ·have s3:=((St.refl noB w2).mapV Tryz.prog kTr 190).push (c:=Ch.all (Zdu 3 1 cN ([]:List (Ent (UInt16×UInt16) Nat)))) ⟨λ _=>0,λ i h=>absurd rfl h,λ k c h=>by simp[Zdu]at h⟩;have hd4:d.A4=A4/\d.c4=c4:=by
   injection hvg with hvg;simp at hvg;exact ⟨hvg.2.2.2.1.symm,hvg.2.2.2.2.symm⟩
  unfold Zf.b1_1;rw[Ur_eq,Zic,Zb2,Ur_eq,Zh6,Zb2];simp -dsimp[go_sem,mkLb];have s3:St noB w2 (w2.alloc (.map #[] 0)) (lbL (.map (some w2.heap.size)) 0 []):=s3;have hTl:=hW.aut.trLen g.terms.length;have hqb:∀w',Chg noB w2 w'->w'.cell? ⟨qb,4,none⟩=some (.slice d.A4 g.prods.length d.c4)/\qb<w'.heap.size:=λ w' hc=>⟨by rw[hd4.1,hd4.2];exact (hgr w' (hc2.trans hc)).k.2.2.2.2,Qaj hql (hc2.trans hc).size⟩;refine Zy7 rfl hTl hW hqb s3 λ w3 n' E hnd hE s4=>?_;refine Zwb hW hqb (λ q p hq hp=>⟨(hE q p hq hp).1,λ y hy=>?_⟩) s4 λ w4 v hc4 hbk=>?_
  ·obtain ⟨q0,h1,_⟩:=((hE q p hq hp).2 y).1 hy;have:=(Qa.1 h1).1;omega
  ·exact hR _ _ ⟨(s1.chg.trans hc2).trans hc4,Or.inr ⟨ks,ess,v,_,hW.aut,rfl,λ q p hq hp y=>(hE q p hq hp).2 y,hbk⟩⟩
end Go.Proofs.YtjibcckpehdbhaaGreatDoor
namespace Go.Px.Cn
open Go.Px Go.Px.Scan
def DrQ (nT:Nat)(start:Int)(P:Prs)(ks:List (List It))(T:List (Nat×Int))(i:Nat)(y:Int):Prop:=∃q A,T[i]?=some (q,A)/\((q=0/\A=start/\y=0)\/∃r,Gt P ks q A r/\y<nT/\Tr P ks r y)
end Go.Px.Cn
namespace Go.Proofs.YtjibcckpehdbhaaGreatDoor
open Go.Px Go.Px.Scan Go.Px.Cn Go.RowKit
attribute [-go_sem] Builtin.append_ Zm.b3 Zm.b9 Zm.b13_1 Zm.b13 Zm.b18 Zm.b17_1 Zm.b17_2 Zm.b14 Zm.b11_1 Zm.b11 Zm.b4 Zm.b1_1
theorem ZZ153 (a b c d:Int)(w:World):(Op.equalIn 10000 190 (.agg #[.int .i64 a,.int .i64 b]) (.agg #[.int .i64 c,.int .i64 d])).run Tryz.prog w = .ok (a == c && b == d) w:=by
 have u3:=Tryz.underlying3;have a3:=Tryz.isAgg3;have z3:=Tryz.sizeOf3;have hS:Tryz.prog.underlying 190=some (.struct (Tryz.prog.fieldsOf 190)):=by kernel_rfl
 have hp:Tryz.prog.stoodInHeld 190=false:=by kernel_rfl
 rw[show (10000:Nat)=9999+1 from rfl,run_equalIn_agg w 9999 190 _ _ hS hp];simp only[Program.fieldsOf,Tryz.underlying190];simp[go_sem];by_cases h1:a=c
 ·by_cases h2:b=d
  ·simp[h1,h2]
  ·simp[h1,h2]
 ·simp[h1]
theorem eqTr (a b c d:Int)(t1 t2:Operand)(w:World):(bins .eql 190 t1 t2 (.agg #[.int .i64 a,.int .i64 b]) (.agg #[.int .i64 c,.int .i64 d])).run Tryz.prog w = .ok (.bool (a == c && b == d)) w:=by
 have hg:Tryz.prog.eqGuardType Tryz.prog.depth 190=false:=by kernel_rfl
 unfold bins;rw[Sem.run_bind,run_eqGuard_agg w _ _ _ _ _ _ hg,Result.andThen_ok,run_eql_struct,ZZ153];rfl
attribute [go_sem ↓] eqTr
theorem bTr1 (y:Int)(w:World):(Instr.build 190 #[(1,.int .i64 y)]).run Tryz.prog w = .ok (.agg #[.int .i64 0,.int .i64 y]) w:=by simp[go_sem]
attribute [go_sem ↓] bTr1
def outL (Ao:Option Addr)(co:Nat)(R:List GRow):List Ch:=[rowC 24 1 Ao R.length co (R.map slV),Ch.all (R.map lnC)]
def Zff (nT:Nat)(es:List (Int×Nat)):List Int:=(es.filter λ e=>decide (e.1<(nT:Int))).map (·.1)
theorem Zsm (nT:Nat)(es:List (Int×Nat))(e:Int×Nat):Zff nT (es++[e])=Zff nT es++if e.1<(nT:Int) then [e.1] else []:=by
 unfold Zff;rw[Qae,Qu];congr 1;by_cases h:e.1<(nT:Int)
 ·rw[if_pos h,Qaz (by simpa using h)];rfl
 ·rw[if_neg h,Qat (by simpa using h)];rfl
theorem Zmt (nT:Nat)(es:List (Int×Nat)):(Zff nT es).length<=es.length:=by
 unfold Zff;rw[Qp];exact Qah _ _
section
variable {W:World} {qb:Nat} {g:Gr} {ks:List (List It)} {ess:List (List (Int×Nat))} {A1:Option Addr} {c1:Nat}
theorem Zxi {w:World}{i r B:Nat}{es:List (Int×Nat)}{ae a Ao:Option Addr}{c co:Nat}{R:List GRow}{pre:List Int}{Q:EP}{C6:Value->VP}{x6:Value}(h:AutP g ks ess)
  (hqb:∀w',Chg noB W w'->w'.cell? ⟨qb,0,none⟩=some (.slice A1 g.terms.length c1)/\qb<w'.heap.size)
  (hes:ess[r]?=some es) (hrd:∀w',Chg noB W w'->(Zq Zj8).at1 w' B (.slice ae es.length es.length) es) (hpre:pre.length<=1) (hi:i<40000)
  (s:St noB W w (outL Ao co R++[rowC 3 1 a pre.length c (ints pre)]))
  (hgo:∀w' a' c',St noB W w' (outL Ao co R++[rowC 3 1 a' (pre++Zff g.terms.length es).length c' (ints (pre++Zff g.terms.length es))])->Zm.b13 Q C6 x6 (.slice a' (pre++Zff g.terms.length es).length c') (.int .i64 i) w') :
  Zm.l16 Q C6 (.pointer (some ⟨qb,0,none⟩)) x6 (.slice a pre.length c) (.int .i64 i) (.slice ae es.length es.length) (.int .i64 es.length) (.int .i64 0) w:=by
 have hel:=h.eslen hes;refine Zm.l16_intro _ _ _ _ _ _ _ _ _ _ (λ x y w'=>∃(k:Nat) (a':Option Addr) (c':Nat),x = .slice a' (pre++Zff g.terms.length (es.take k)).length c'/\y = .int .i64 k/\k<=es.length/\St noB W w' (outL Ao co R++[rowC 3 1 a' (pre++Zff g.terms.length (es.take k)).length c' (ints (pre++Zff g.terms.length (es.take k)))])) (λ _ y _=>es.length-iv y)
  ⟨0,a,c,by simp[Zff],rfl,Qy _,by simpa[Zff]using s⟩ ?_
 rintro _ _ w1 ⟨k,a',c',rfl,rfl,hk,s1⟩ C hC;obtain ⟨l,hl⟩:∃l,pre++Zff g.terms.length (es.take k)=l:=⟨_,rfl⟩;have hll:l.length<=200:=by
  have h1:=Zmt g.terms.length (es.take k);rw[Q6]at h1;rw[<-hl,Qq];omega
 rw[hl]at s1 |-;simp -dsimp[go_sem];refine Za (λ p1=>?_) (λ p1=>?_)<;>simp at p1
 ·have wk:=wS k (by omega);obtain ⟨b,o,rfl,hb,x1,x2⟩:=Zkt (hrd w1 s1.chg) p1;have hm:=Qj p1;have et:es.take (k+1)=es.take k++[es[k]]:=Qd p1;have hsy:=h.sym hes hm;have hT1:=h.cl.syms.t1;have hN1:=h.cl.syms.n1;obtain ⟨e,he⟩:∃e,es[k]=e:=⟨_,rfl⟩;rw[he]at x1 x2 hm et hsy;obtain ⟨sy,r2⟩:=e;simp only at x1 x2 hsy;have s2:=s1.alloc #[.int .i64 sy,.int .i64 (r2:Int)] 99;obtain ⟨yq,yql⟩:=hqb w1 s1.chg;have up:∀w' a'' c'' l',l'=pre++Zff g.terms.length (es.take (k+1))->St noB W w' (outL Ao co R++[rowC 3 1 a'' l'.length c'' (ints l')])->Zm.b18 Q C6 C (.slice a'' l'.length c'') (.int .i64 k) w':=λ w' a'' c'' l' hl' s'=>by
   unfold Zm.b18;simp -dsimp[go_sem,wk];exact hC _ _ _ ⟨k+1,a'',c'',by rw[hl'],by simp,by omega,by rw[<-hl'];exact s'⟩ (by simp[iv];omega)
  rw[et,Zsm,<-Q5,hl]at up;unfold Zm.b17_2;simp -dsimp[go_sem,p1,x1,x2,yq,yql];refine Za (λ p2=>?_) (λ p2=>?_)<;>simp at p2
  ·rw[if_pos p2]at up;unfold Zm.b17_1;generalize w1.alloc (.cells #[.int .i64 sy,.int .i64 (r2:Int)] 99)=w2 at s2 |-;generalize w1.heap.size=eb at s2 |-;have y2:=(s2.box 3 rfl).1;simp[Zw]at y2;have s3:=s2.take 3;simp -dsimp[go_sem,y2];refine s3.append1 2 (e:=3) (size:=1) (a0:=a') (n:=l.length) (c:=c') (xs:=ints l) rfl Zgn iInt rfl (by decide) (news:=[.int .i64 sy]) rfl (by simp[Value.oneCell']) (by unfold maxLen;omega) (by unfold Zaf;omega) ?_;intro gA cap w4 s4;have e3:(l++[sy]).length=l.length+1:=by simp
   have e4:ints (l++[sy])=ints l++[.int .i64 sy]:=by unfold ints;simp
   have:=up w4 (some ⟨gA,0,none⟩) cap _ rfl (by rw[e3,e4];exact s4);rw[e3]at this;exact this
  ·rw[if_neg (by show ¬sy<(g.terms.length:Int);omega),Qas]at up;exact up _ a' c' l rfl (s2.take 3)
 ·have:k=es.length:=by omega
  subst this;rw[Qm]at hl;rw[<-hl]at s1 |-;exact hgo w1 a' c' s1
end
theorem Zyb {w:World}{a:Option Addr}{n c:Nat}(h:n<=c):Ct Tryz.prog Zbx.id #[.slice a n c] w λ v w'=>v = .slice a n n/\w=w':=by
 refine Zbx.ct λ R hR=>?_;unfold Zbx.run
 cases a with
 | none=>
  simp -dsimp[go_sem,h];exact hR _ _ ⟨rfl,rfl⟩
 | some a=>
  simp -dsimp[go_sem,h];exact hR _ _ ⟨rfl,rfl⟩
def Zeo (w:World)(v:Value)(E:List (List Int)):Prop:=∃A c,v = .slice A E.length c/\∀(i:Nat) l,E[i]?=some l->∃b o a cc,A=some ⟨b,o,none⟩/\b<w.heap.size/\w.cell? ⟨b,o+i,none⟩=some (.slice a l.length cc)/\(Zq rInt).at1 w w.heap.size (.slice a l.length cc) l
theorem Zeo.keep {w w':World}{v:Value}{E:List (List Int)}(h:Zeo w v E)(hc:Chg noB w w'):Zeo w' v E:=by
 obtain ⟨A,c,rfl,h⟩:=h;refine ⟨A,c,rfl,λ i l hl=>?_⟩;obtain ⟨b,o,a,cc,e,hb,h1,h2⟩:=h i l hl;exact ⟨b,o,a,cc,e,Qaj hb hc.size,hc.at h1 id,Rep.up (Rep.below h2 (hc.below (Ql _) λ _ _=>id)) hc.size⟩
theorem Zpn.m {w:World}{v:Value}{E:List (List Int)}(h:Zpn w v E):Zeo w v E:=by
 obtain ⟨ob,c,rfl,hb,h⟩:=h;refine ⟨some ⟨ob,0,none⟩,c,rfl,λ i l hl=>?_⟩;obtain ⟨a,h1,h2⟩:=h i l hl;exact ⟨ob,0,a,_,rfl,hb,by simpa using h1,h2⟩
def RelM (Q:List (List It)->List (Nat×Int)->Nat->Int->Prop)(g:Gr)(w':World)(v:Value):Prop:=(∃e:Nat,NoAut g e/\v = .tuple #[.slice none 0 0,.int .i64 e]) \/
 ∃ks ess vv E,AutP g ks ess/\v = .tuple #[vv,.int .i64 0]/\E.length=(trL g.terms.length ess).length/\(∀(i:Nat) l,E[i]?=some l->∀y,y∈l↔Q ks (trL g.terms.length ess) i y)/\Zeo w' vv E
theorem RelA.m {Q:List (List It)->List (Nat×Int)->Nat->Int->Prop}{g:Gr}{w':World}{v:Value}(h:RelA Q g w' v):RelM Q g w' v:=by
 rcases h with h|⟨ks,ess,vv,E,h1,h2,h3,h4,h5⟩
 ·exact Or.inl h
 ·exact Or.inr ⟨ks,ess,vv,E,h1,h2,h3,λ i l hl=>(h4 i l hl).2,h5.m⟩
section
variable {W:World} {qb tw mb:Nat} {g:Gr} {ks:List (List It)} {ess:List (List (Int×Nat))} {A1:Option Addr} {c1:Nat} {g1 g2 g3 g4 g5:Value} {A:Option Addr} {c:Nat} {asked:Int}
theorem Zt3 {T:List (Nat×Int)}{i q r:Nat}{X:Int}{es:List (Int×Nat)}(h:AutP g ks ess)(hi:T[i]?=some (q,X))(hg:Gt g.prods ks q X r)(hes:ess[r]?=some es)(y:Int) :
  y∈(if q=0/\X=g.start then [(0:Int)] else [])++Zff g.terms.length es↔DrQ g.terms.length g.start g.prods ks T i y:=by
 rw[Qk];constructor
 ·rintro (hy|hy)
  ·split at hy
   ·rename_i hc;rw[Qg]at hy;exact ⟨q,X,hi,Or.inl ⟨hc.1,hc.2,hy⟩⟩
   ·cases hy
  ·unfold Zff at hy;obtain ⟨e,he,rfl⟩:=Qr.1 hy;rw[Qz,decide_eq_true_eq]at he;exact ⟨q,X,hi,Or.inr ⟨r,hg,he.2,(h.edge hes he.1).tr⟩⟩
 ·rintro ⟨q',X',h1,h2⟩;rw[hi]at h1;injection h1 with h1;injection h1 with h1 h1';subst h1 h1';rcases h2 with ⟨h2,h3,h4⟩|⟨r',h2,h3,h4⟩
  ·rw[if_pos ⟨h2,h3⟩];exact Or.inl (by simp[h4])
  ·have:=h.au.uniq hg h2;subst this;obtain ⟨r2,hr2⟩:=h.au.gt h4;obtain ⟨⟨es',he1,he2⟩,_⟩:=h.gt hr2;rw[hes]at he1;injection he1 with he1;subst he1;refine Or.inr ?_;unfold Zff;exact Qr.2 ⟨_,Qz.2 ⟨he2,by simpa using h3⟩,rfl⟩
theorem ZZ58 {w:World}{T:List (Nat×Int)}{At:Option Addr}{ct:Nat}{Q:EP}(h:AutP g ks ess)(hau:AuR W A ks ess)(hTe:trL g.terms.length ess=T)(hTl:T.length<=33280)
  (hqb:∀w',Chg noB W w'->(w'.cell? ⟨qb,0,none⟩=some (.slice A1 g.terms.length c1)/\w'.cell? ⟨qb,3,none⟩=some (.int .i64 g.start))/\qb<w'.heap.size)
  (htw:∀w',Chg noB W w'->(w'.cell? ⟨tw,5,none⟩=some (.slice A ks.length c)/\w'.cell? ⟨tw,8,none⟩=some (.map (some mb)))/\tw<w'.heap.size)
  (hmp:∀w',Chg noB W w'->∀q n:Nat,q<65536->n<65536->(Instr.lookup 185 (.map (some mb)) (.agg #[.int .i64 q,.int .i64 n]) false).run Tryz.prog w' = .ok (.int .i64 (toF ess q n)) w')
  (hrT:∀w',Chg noB W w'->(Zq rTrn).at1 w' W.heap.size (.slice At T.length ct) T)
  (s:St noB W w (outL none 0 []))
  (hgo:∀w' Ao co (R:List GRow),R.length=T.length->(∀(i:Nat) (x:GRow),R[i]?=some x->x.2.2.length<=1000/\x.2.1=x.2.2.length/\∀y,y∈x.2.2↔DrQ g.terms.length g.start g.prods ks T i y)->St noB W w' (outL Ao co R)->Zm.b3 Q (.slice Ao R.length co) w') :
  Zm.l6 Q (.pointer (some ⟨qb,0,none⟩)) (.pointer (some ⟨tw,0,none⟩)) (.slice none 0 0) (.slice At T.length ct) (.int .i64 T.length) (.int .i64 0) w:=by
 refine Zm.l6_intro _ _ _ _ _ _ _ _ (λ x y w'=>∃(i:Nat) (Ao:Option Addr) (co:Nat) (R:List GRow),x = .slice Ao R.length co/\y = .int .i64 i/\i<=T.length/\R.length=i/\(∀(j:Nat) (x:GRow),R[j]?=some x->x.2.2.length<=1000/\x.2.1=x.2.2.length/\∀y,y∈x.2.2↔DrQ g.terms.length g.start g.prods ks T j y)/\St noB W w' (outL Ao co R)) (λ _ y _=>T.length-iv y)
  ⟨0,none,0,[],rfl,rfl,Qy _,rfl,λ j x hx=>by simp at hx,s⟩ ?_
 rintro _ _ w1 ⟨i,Ao,co,R,rfl,rfl,hi,hRl,hRR,s1⟩ C hC;simp -dsimp[go_sem];refine Za (λ p1=>?_) (λ p1=>?_)<;>simp at p1
 ·have wi:=wS i (by omega);obtain ⟨b,o,rfl,hb,x1,x2⟩:=Znv (hrT w1 s1.chg) p1;have hT:T[i]?=some T[i]:=Qb p1;obtain ⟨e,he⟩:∃e,T[i]=e:=⟨_,rfl⟩;rw[he]at x1 x2 hT;obtain ⟨q,X⟩:=e;simp only at x1 x2;have hm:=Qe hT;rw[<-hTe,h.mem_trL]at hm;obtain ⟨r,hgt⟩:=h.au.gt hm.2;obtain ⟨⟨es0,g1',g2'⟩,hF⟩:=h.gt hgt;obtain ⟨hsy,hr1,hr2⟩:=h.sym g1' g2';have hT1:=h.cl.syms.t1;have hN1:=h.cl.syms.n1;have hkl:=h.len;have hee:=h.es.len;have hql:=(Qa.1 g1').1;simp only at hsy hr1 hr2;obtain ⟨n,rfl⟩:∃n:Nat,X=n:=⟨X.toNat,by omega⟩;obtain ⟨l,es,hl,hes,_⟩:=h.at hr2;have hel:=h.eslen hes;have s2:=s1.alloc #[.int .i64 (q:Int),.int .i64 (n:Int)] 190;unfold Zm.b11;have yq1:=hqb _ s2.chg;simp -dsimp[go_sem,p1,x1,x2,yq1];generalize w1.alloc (.cells #[.int .i64 (q:Int),.int .i64 (n:Int)] 190)=w2 at s2 yq1 |-;generalize w1.heap.size=tb at s2 |-;have rest:∀w3 a c pre,pre=(if q=0/\(n:Int)=g.start then [(0:Int)] else [])->St noB W w3 (outL Ao co R++[boxC tb 190 [.int .i64 (q:Int),.int .i64 (n:Int)],rowC 3 1 a pre.length c (ints pre)])->Zm.b14 Q C (.pointer (some ⟨qb,0,none⟩)) (.pointer (some ⟨tw,0,none⟩)) (.slice Ao R.length co) (.pointer (some ⟨tb,0,none⟩)) (.slice a pre.length c) (.int .i64 i) w3:=λ w3 a c' pre hpre s3=>by
   have hpl:pre.length<=1:=by rw[hpre];split<;>simp
   have y2:=(s3.box 2 rfl).1;have yl2:=(s3.box 2 rfl).2.2;obtain ⟨ytw,ytl⟩:=htw w3 s3.chg;have hlk:=hmp w3.drew ((s3.chg).trans (Chg.refl noB w3).drew) q n (by omega) (by omega);rw[hF]at hlk;obtain ⟨gs,a',ca,ae,eA,z1,z2,z3⟩:=(hau.keep s3.chg).at hl hes;have hgsl:gs<w3.heap.size:=World.block_lt_of_cell? _ _ z1;simp[Zw]at y2;rw[eA]at ytw;unfold Zm.b14;simp -dsimp[go_sem,y2,yl2,ytw,ytl,hlk,hr2,z1,z2,hgsl];refine Zxi (A1:=A1) (c1:=c1) (B:=W.heap.size) h (λ w' hc=>⟨(hqb w' hc).1.1,(hqb w' hc).2⟩) hes (ae:=ae) (λ w' hc=>?_) hpl (by omega) ((s3.pick [0,1,3] (by decide) rfl).old (Chg.refl noB w3).drew) λ w4 a4 c4 s4=>?_
   ·obtain ⟨gs2,_,_,ae2,e1,_,x2',x3'⟩:=hau.at hl hes;rw[eA]at e1;injection e1 with e1;injection e1 with e1;subst e1;have:=s3.chg.at x2' id;rw[z2]at this;injection this with this;injection this with this;subst this;exact Rep.below x3' (hc.below (Ql _) λ _ _=>id)
   ·obtain ⟨row,hrow⟩:∃row,pre++Zff g.terms.length es=row:=⟨_,rfl⟩;have hrl:row.length<=200:=by
     rw[<-hrow,Qq];have:=Zmt g.terms.length es;omega
    have hmem:∀y,y∈row↔DrQ g.terms.length g.start g.prods ks T i y:=λ y=>by
     rw[<-hrow,hpre];exact Zt3 h hT hgt hes y
    rw[hrow]at s4 |-;obtain ⟨_,hnc,_⟩:=s4.rowSize 2 rfl;unfold Zm.b13;refine Zi (Zmd hnc) ?_;rintro _ _ ⟨rfl,rfl⟩;unfold Zm.b13_1;simp -dsimp[go_sem];have s5:St noB W w4 ([rowC 24 1 Ao R.length co (R.map slV),Ch.all (R.map lnC),lnC (a4,row.length,row)]):=s4.turn (k:=2) rfl λ F h=>Ztu (in_ln (x:=(a4,c4,row)) h);refine s5.append1 0 (e:=24) (size:=1) (a0:=Ao) (n:=R.length) (c:=co) (xs:=R.map slV) rfl uGrid Zut rfl (by decide) (news:=[.slice a4 row.length row.length]) rfl (by simp[Value.oneCell']) (by unfold maxLen;omega) (by unfold Zaf;omega) ?_;intro gA cap w5 s6;have s7:=s6.into 2 1 rfl rfl (by decide);have e1:(R++[((a4,row.length,row):GRow)]).length=R.length+1:=by simp
    unfold Zm.b9;simp -dsimp[go_sem,wi];refine hC _ _ _ ⟨i+1,some ⟨gA,0,none⟩,cap,R++[(a4,row.length,row)],by rw[e1],by simp,by omega,by rw[e1,hRl],λ j x hx=>?_,?_⟩ (by simp[iv];omega)
    ·by_cases hj:j<R.length
     ·rw[Qf hj]at hx;exact hRR j x hx
     ·have hjl:=(Qa.1 hx).1;rw[e1]at hjl;have:j=R.length:=by omega
      subst this;rw[Qi (Ql _),Qam]at hx;injection hx with hx;subst hx;exact ⟨by show row.length<=1000;omega,rfl,by rw[hRl];exact hmem⟩
    ·unfold outL;rw[e1,Qu,Qu];exact s7.take 2
  have y2:=(s2.box 2 rfl).1;simp[Zw]at y2;refine Za (λ p3=>?_) (λ p3=>?_)<;>simp at p3
  ·have hc:q=0/\(n:Int)=g.start:=by
    obtain ⟨h1,h2⟩:=p3;exact ⟨by omega,h2⟩
   unfold Zm.b11_1;simp -dsimp[go_sem];refine (s2.nilRow 3 1).append1 3 (e:=3) (size:=1) (a0:=none) (n:=0) (c:=0) (xs:=[]) rfl Zgn iInt rfl (by decide) (news:=[.int .i64 0]) rfl (by simp[Value.oneCell']) (by unfold maxLen;omega) (by unfold Zaf;omega) ?_;intro gA cap w4 s4;exact rest w4 (some ⟨gA,0,none⟩) cap [0] (by rw[if_pos hc]) s4
  ·have hc:¬(q=0/\(n:Int)=g.start):=λ hc=>by
    obtain ⟨h1,h2⟩:=hc;exact p3 (by simp[h1]) h2
   exact rest w2 none 0 [] (by rw[if_neg hc]) (s2.nilRow 3 1)
 ·have:i=T.length:=by omega
  subst this;exact hgo w1 Ao co R hRl hRR s1
end
theorem Zwe {w:World}{B:Nat}{vg:Value}{g:Gr}(hg:Zb7.atN w B vg g)(hB:B<=w.heap.size) :
  Ct Tryz.prog Zm.id #[vg] w λ v w'=>Chg noB w w'/\RelM (DrQ g.terms.length g.start g.prods) g w' v:=by
 refine Zm.ct λ R hR=>?_;obtain ⟨A1,c1,A2,c2,A3,c3,A4,c4,rfl,⟨m1,m2,m3,m4⟩,hst,hc0,hgr⟩:=Zbg hg hB;have s1:=(St.refl noB w).alloc (gQ A1 c1 A2 c2 A3 c3 A4 c4 g) 27;have y1:=(hgr _ (Chg.refl _ _)).k;unfold Zm.run;simp -dsimp[go_sem,y1];have hg1:=Zx hg (s1.chg.below hB λ _ _=>id);have hB1:B<=(w.alloc (.cells (gQ A1 c1 A2 c2 A3 c3 A4 c4 g) 27)).heap.size:=by have:=s1.chg.size;omega
 have hql:w.heap.size<(w.alloc (.cells (gQ A1 c1 A2 c2 A3 c3 A4 c4 g) 27)).heap.size:=by simp
 clear hc0 y1;generalize w.alloc (.cells (gQ A1 c1 A2 c2 A3 c3 A4 c4 g) 27)=w1 at s1 hg1 hB1 hgr hql |-;generalize w.heap.size=qb at s1 hgr hql |-;refine Zi (ZZ8 hg1 hB1) ?_;rintro v w2 ⟨hc2,hres⟩;rcases hres with ⟨e,he,rfl⟩|⟨B1,d1,B2,d2,B3,d3,B4,d4,tb,A,c,asked,ks,ess,mb,cnt,hvg,rfl,hP,hau,s2⟩
 ·have hne:((e:Int) != 0)=true:=by rcases he with ⟨rfl,_⟩ | ⟨rfl,_⟩<;>rfl
  unfold Zm.b1_1;rw[Ur_eq,Zic,Zb2,Ur_eq,Zh6,Zb2];simp -dsimp[go_sem,hne];exact hR _ _ ⟨(s1.old hc2).chg,Or.inl ⟨e,he,rfl⟩⟩
 ·unfold Zm.b1_1;rw[Ur_eq,Zic,Zb2,Ur_eq,Zh6,Zb2];simp -dsimp[go_sem];have hbx:∀w',Chg noB w2 w'->Zw w' tb 0 [.slice B1 g.terms.length d1,.slice B2 g.nons.length d2,.slice B3 g.levels.length d3,.int .i64 g.start,.slice B4 g.prods.length d4,.slice A ks.length c,.int .i64 asked,.int .i64 ks.length,.map (some mb)]:=λ w' hc=>((s2.old hc).box 0 rfl).1;unfold Zm.b4;refine Zi (Zri hP hau hbx) ?_;rintro _ w3 ⟨At,ct,rfl,s3⟩;obtain ⟨T,hTe⟩:∃T,trL g.terms.length ess=T:=⟨_,rfl⟩;have hTl:=hP.trLen g.terms.length;rw[hTe]at hTl s3 |-;have hc13:=hc2.trans s3.chg;have hrT:∀w',Chg noB w3 w'->(Zq rTrn).at1 w' w3.heap.size (.slice At T.length T.length) T:=λ w' hc=>by
   obtain ⟨F,ho,_⟩:=s3.get (k:=0) rfl;exact Rep.below (Zki (r:=rTrn) (enc:=trV) (c':=T.length) ho rfl (λ _ _=>rfl) (by decide) (λ _ _ _=>rfl) (Ql _) (by unfold maxLen;omega)) (hc.below (Ql _) λ _ _=>id)
  have s4:=((St.refl noB w3).nilRow 24 1).push (c:=Ch.all (([]:List GRow).map lnC)) ⟨λ _=>0,λ i h=>absurd rfl h,λ k c h=>by simp at h⟩;simp -dsimp[go_sem];refine ZZ58 (A1:=A1) (c1:=c1) (c:=c) (mb:=mb) hP (hau.keep s3.chg) hTe hTl (λ w' hc=>?_) (λ w' hc=>?_) (λ w' hc q n hq hn=>?_) hrT s4 λ w' Ao co R' hRl hRR s5=>?_
  ·have:=(hgr w' (hc13.trans hc)).k;exact ⟨⟨this.1,this.2.2.2.1⟩,Qaj hql (hc13.trans hc).size⟩
  ·have:=hbx w' (s3.chg.trans hc);exact ⟨⟨this.2.2.2.2.2.1,this.2.2.2.2.2.2.2.2.1⟩,((s2.old (s3.chg.trans hc)).box 0 rfl).2.2⟩
  ·have:=(s2.old (s3.chg.trans hc)).mapGet mTr 1 (f:=λ c=>(toF ess c.1.toNat c.2.toNat:Int)) rfl (tr q n) trivial;rw[Ziz hq hn]at this;rw[this]
   show Result.ok (Value.int .i64 ((toF ess (tr q n).1.toNat (tr q n).2.toNat:Nat):Int)) w'=_
   rw[(Zfr hq hn).1,(Zfr hq hn).2]
  ·obtain ⟨_,hnc,_⟩:=s5.rowSize 0 rfl;unfold Zm.b3;refine Zi (Zyb hnc) ?_;rintro _ _ ⟨rfl,rfl⟩;refine hR _ _ ⟨(s1.chg.trans hc13).trans s5.chg,Or.inr ⟨ks,ess,_,R'.map λ x=>x.2.2,hP,rfl,by rw[Qp,hRl,hTe],λ i l hl=>?_,?_⟩⟩
   ·rw[Qh]at hl;obtain ⟨x,hx,rfl⟩:=Q4.1 hl;rw[hTe];exact (hRR i x hx).2.2
   ·refine ⟨Ao,R'.length,by rw[Qp],λ i l hl=>?_⟩;rw[Qh]at hl;obtain ⟨x,hx,rfl⟩:=Q4.1 hl;obtain ⟨q1,q2,q3⟩:=hRR i x hx;obtain ⟨gb,eb,hc,_⟩:=s5.rowAt 0 rfl (j:=i) (by rw[Qp];exact (Qa.1 hx).1);rw[Q8,(Qa.1 hx).2]at hc;obtain ⟨F,sF,_⟩:=s5.inAll' 1 rfl;obtain ⟨F2,ho,_⟩:=sF.get (k:=i) (c:=lnC x) (by rw[Qh,hx];rfl);obtain ⟨a,c',l⟩:=x;simp only at q1 q2 q3;subst q2;refine ⟨gb,0,a,_,eb,World.block_lt_of_cell? _ _ hc,by simpa[slV]using hc,ln_rd ho (λ y hy=>?_) (Qav q1 (by decide))⟩;obtain ⟨q,X,h1,h2⟩:=(q3 y).1 hy;have hT1:=hP.cl.syms.t1;rcases h2 with ⟨_,_,rfl⟩|⟨r,h2,h3,h4⟩
    ·exact ⟨by omega,by omega⟩
    ·obtain ⟨r2,h5⟩:=hP.au.gt h4;obtain ⟨⟨es',he1,he2⟩,_⟩:=hP.gt h5;have:=hP.sym he1 he2;simp only at this;exact ⟨by omega,by omega⟩
end Go.Proofs.YtjibcckpehdbhaaGreatDoor
