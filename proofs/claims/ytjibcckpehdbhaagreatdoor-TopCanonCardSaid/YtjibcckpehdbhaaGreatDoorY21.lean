/-
  Texts of this claim: Tp3, Tp4, Tp5, Tp6, Tp7, Tq1, Mg2, Dg2, Dg3.
-/
import Derived.Test.YtjibcckpehdbhaaGreatDoorY14
import Derived.Test.YtjibcckpehdbhaaGreatDoorY20
import Derived.Test.YtjibcckpehdbhaaGreatDoorY03
import Derived.Test.YtjibcckpehdbhaaGreatDoorY15
import Derived.Test.YtjibcckpehdbhaaGreatDoorY07
import Derived.Test.YtjibcckpehdbhaaGreatDoorY12
set_option maxHeartbeats 1000000
set_option linter.unusedSimpArgs false
set_option linter.unusedVariables false
set_option maxRecDepth 100000
namespace Go.Px
section
variable {G:Nat->Prop} {W w:World} {L L':List Ch}
theorem St.left (h:St G W w (L++L')):St G W w L:=by
 have:=h.take L.length;rwa [List.take_left]at this
theorem St.swapEnd {x:Ch}(h:St G W w (L++[x]))(k:Nat)(hk:k<L.length):St G W w (L.set k x):=by
 have h1:=h.merge (j:=L.length) (k:=k) (c:=x) (d:=L[k]) (e:=x) (by rw[Qi (Ql _)];simp) (by rw[Qf hk,Qb hk]) (by omega)
  (λ F F' h1 _=>x.keep h1 (Chg.refl noB _) (λ _ _ _=>id) λ _ _ h=>Or.inl h)
 have e:(((L++[x]).set L.length Ch.emp).set k x)=L.set k x++[Ch.emp]:=by
  rw[Qac _ _ (Ql _),Qdb _ _ hk];simp
 rw[e]at h1;exact h1.left
theorem St.qTail' {size n c:Nat}{a:Addr}(h:St G W w L)(k:Nat){x r:List Value}(hk:L[k]?=some (qC size a (n+1) c (x++r)))(hx:x.length=size):St G W w (L.set k (qC size (if c=1 then a else ⟨a.block,a.off+size,none⟩) n (c-1) r)):=by
 refine h.turn hk λ F ⟨h1,h2,h3,h4,h5,h6,h7,h8,h9⟩=>?_;rw[Qq,hx,Qbw]at h1;by_cases e:c=1
 ·have hn:n=0:=by omega
  subst hn;have hr:r=[]:=Qal (by omega);subst hr;rw[if_pos e];exact ⟨by simp,by omega,by omega,h4,h5,h6,λ j u hj=>by simp at hj,λ j hj=>by rw[e]at hj;simp at hj,h9⟩
 ·rw[if_neg e];refine ⟨by omega,by omega,by omega,rfl,h5,h6,λ j u hj=>?_,λ j hj=>?_,h9⟩
  ·rw[Qck];refine h7 (size+j) u ?_;rw[Qi (by omega),hx,Qa5];exact hj
  ·rw[Qck];refine h8 (size+j) ?_;have:c*size=(c-1)*size+size:=by rw[<-Qbw];congr 1;omega
   omega
end
end Go.Px
namespace Go.Px.Cn
open Go.Px Go.Px.Scan
structure CanEnv (W:World)(B:Nat)(g:Gr)(A1 A2 A3 A4:Option Addr)(c1 c2 c3 c4 bb mN mH cH:Nat)(ga:Nat->Nat)(null:List Bool)(hs:List (List Bool)):Prop where
 gr:Zb7.atN W B (.agg (gQ A1 c1 A2 c2 A3 c3 A4 c4 g)) g
 hB:B<=W.heap.size
 cl:Zbn g
 nl:null.length=g.nons.length
 hl:hs.length=g.terms.length+g.nons.length
 hc:hs.length<=cH
 out:∀s u,¬u<g.terms.length->(hs.getD s []).getD u false=false
 bg:∀w',Chg noB W w'->BgAt w' bb (gU A1 c1 A2 c2 A3 c3 A4 c4 g) g.terms.length mN g.nons.length mH cH ga null hs
def canB (g:Gr)(A1 A2 A3 A4:Option Addr)(c1 c2 c3 c4 bb cb left:Nat):Ch :=
 boxC cb 112 [.slice A1 g.terms.length c1,.slice A2 g.nons.length c2,.slice A3 g.levels.length c3,.int .i64 g.start,.slice A4 g.prods.length c4,.pointer (some ⟨bb,0,none⟩),.int .i64 left]
def ItOk (g:Gr)(z:It1):Prop:=z.1.1<g.prods.length/\z.1.2<=(rgt g.prods z.1.1).length/\z.2<g.terms.length
def Zf6 (q nT:Nat)(cond:Nat->Bool):List It1:=((List.range nT).filter cond).map λ u=>((q,0),u)
def Zf0 (P:Prs)(s:Int)(nT:Nat)(cond:Nat->Bool)(k:Nat):List It1:=(List.range k).flatMap λ q=>if lft P q=s then Zf6 q nT cond else []
theorem Zlt (q j:Nat)(cond:Nat->Bool):Zf6 q (j+1) cond=if cond j then Zf6 q j cond++[((q,0),j)] else Zf6 q j cond:=by
 unfold Zf6;rw[Qch,Qae,Qu];cases h:cond j<;>simp[h]
theorem Zio (P:Prs)(s:Int)(nT k:Nat)(cond:Nat->Bool):Zf0 P s nT cond (k+1)=if lft P k=s then Zf0 P s nT cond k++Zf6 k nT cond else Zf0 P s nT cond k:=by
 unfold Zf0;rw[Qch,Qab];by_cases h:lft P k=s<;>simp[h]
theorem Zms (q nT:Nat)(cond:Nat->Bool):(Zf6 q nT cond).length<=nT:=by
 unfold Zf6;rw[Qp];have:=Qah cond (List.range nT);rwa [Qci]at this
theorem Zni (P:Prs)(s:Int)(nT k:Nat)(cond:Nat->Bool):(Zf0 P s nT cond k).length<=k*nT:=by
 induction k with
 | zero=>simp[Zf0]
 | succ k ih=>
  rw[Zio,Qbw];split
  ·rw[Qq];have:=Zms k nT cond;omega
  ·omega
theorem Zoa {P:Prs}{s:Int}{nT:Nat}{cond:Nat->Bool}{z:It1}:z∈Zf0 P s nT cond P.length↔∃q u,q<P.length/\lft P q=s/\u<nT/\cond u=true/\z=((q,0),u):=by
 unfold Zf0 Zf6;rw[Qbh];constructor
 ·rintro ⟨q,hq,hz⟩;rw[Qbg]at hq;split at hz
  ·next h=>
   rw[Qr]at hz;obtain ⟨u,hu,rfl⟩:=hz;rw[Qz,Qbg]at hu;exact ⟨q,u,hq,h,hu.1,hu.2,rfl⟩
  ·cases hz
 ·rintro ⟨q,u,hq,h,hu,hc,rfl⟩;refine ⟨q,Qbg.2 hq,?_⟩;rw[if_pos h,Qr];exact ⟨u,Qz.2 ⟨Qbg.2 hu,hc⟩,rfl⟩
end Go.Px.Cn
namespace Go.Proofs.YtjibcckpehdbhaaGreatDoor
open Go.Px Go.Px.Scan Go.Px.Cn Go.RowKit
attribute [-go_sem] Builtin.append_ Zb.b13 Zb.b20 Zb.b23_1 Zb.b23 Zb.b22_1 Zb.b22 Zb.b15
theorem bFl (p d t:Int)(w:World):(Instr.build 117 #[(0,.agg #[.int .i64 p,.int .i64 d]),(1,.int .i64 t)]).run Tryz.prog w = .ok (.agg #[.int .i64 p,.int .i64 d,.int .i64 t]) w:=by
 have e0:∀(A:Array Value),Array.foldl (λ (cs:Array Value) (x:Value×Nat)=>cs.setIfInBounds x.snd x.fst) A (Value.agg #[.int .i64 p,.int .i64 d]).cells.zipIdx 0 2=(A.setIfInBounds 0 (.int .i64 p)).setIfInBounds 1 (.int .i64 d):=λ A=>rfl;have e1:∀(A:Array Value) (k:Nat) (q:Int),Array.foldl (λ (cs:Array Value) (x:Value×Nat)=>cs.setIfInBounds (k+x.snd) x.fst) A (Value.int .i64 q).cells.zipIdx 0 1=A.setIfInBounds k (.int .i64 q):=λ A k q=>rfl;simp[go_sem,e0,e1]
theorem bIt1 (q:Int)(w:World):(Instr.build 89 #[(0,.int .i64 q)]).run Tryz.prog w = .ok (.agg #[.int .i64 q,.int .i64 0]) w:=by simp[go_sem]
theorem bIt2 (q d:Int)(w:World):(Instr.build 89 #[(0,.int .i64 q),(1,.int .i64 d)]).run Tryz.prog w = .ok (.agg #[.int .i64 q,.int .i64 d]) w:=by simp[go_sem]
theorem bFl0 (w:World):(Instr.build 117 #[]).run Tryz.prog w = .ok (.agg #[.int .i64 0,.int .i64 0,.int .i64 0]) w:=by simp[go_sem]
attribute [go_sem ↓] bFl bIt1 bIt2
theorem Zxw {G:Nat->Prop}{W w:World}{L:List Ch}{kq ko kb o ab nT n0 q:Nat}{out:List Bool}{emp:Bool}{z:It1}{t0:List It1}{a0:Addr}{cc0:Nat}{R:EP}{C5:Value->VP}{C10:Value->VP}
  (hq:L[kq]?=some (qC 3 a0 t0.length cc0 (t0.flatMap fV))) (ho:L[ko]?=some (rowC 4 1 (some ⟨o,0,none⟩) nT nT (Zaz out))) (hb:L[kb]?=some (boxC ab 117 (fV z))) (hqo:kq≠ko) (hqb:kq≠kb) (s:St G W w L) (hout:out.length=nT) (hT:nT<=65) (hq1:q<=1000) (hlen:t0.length<=200000000)
  (hgo:∀w' a' cc',St G W w' (L.set kq (qC 3 a' (t0++Zf6 q nT λ u=>out.getD u false || (emp && decide (u=z.2))).length cc' ((t0++Zf6 q nT λ u=>out.getD u false || (emp && decide (u=z.2))).flatMap fV)))->Zb.b13 R C5 C10 (.slice (some a') (t0++Zf6 q nT λ u=>out.getD u false || (emp && decide (u=z.2))).length cc') (.int .i64 q) w') :
  Zb.l17 R C5 C10 (.slice (some a0) t0.length cc0) (.pointer (some ⟨ab,0,none⟩)) (.slice (some ⟨o,0,none⟩) nT nT) (.bool emp) (.int .i64 q) (.int .i64 0) w:=by
 have hkl:=(Qa.1 hq).1;have hL0:L.set kq (qC 3 a0 t0.length cc0 (t0.flatMap fV))=L:=by rw[<-(Qa.1 hq).2,Qai]
 obtain ⟨cond,hcond⟩:∃cond:Nat->Bool,(λ u=>out.getD u false || (emp && decide (u=z.2)))=cond:=⟨_,rfl⟩;rw[hcond]at hgo;refine Zb.l17_intro _ _ _ _ _ _ _ _ _ _ (λ x y w'=>∃(j:Nat) (a:Addr) (cc:Nat) (T:List It1),T=t0++Zf6 q j cond/\x = .slice (some a) T.length cc/\y = .int .i64 j/\j<=nT/\St G W w' (L.set kq (qC 3 a T.length cc (T.flatMap fV)))) (λ _ y _=>nT-iv y)
  ⟨0,a0,cc0,t0,by simp[Zf6],rfl,rfl,by omega,by rw[hL0];exact s⟩ ?_
 rintro _ _ w1 ⟨j,a,cc,T,hTe,rfl,rfl,hj,s1⟩ C hC;have wj:=wS j (by omega);have hTl:T.length<=200000100:=by
  rw[hTe,Qq];have:=Zms q j cond;omega
 have hup:∀w' a' cc' T',T'=t0++Zf6 q (j+1) cond->j<nT->St G W w' (L.set kq (qC 3 a' T'.length cc' (T'.flatMap fV)))->Zb.b20 R C5 C10 C (.slice (some a') T'.length cc') (.int .i64 j) w':=by
  intro w' a' cc' T' h1 h2 h3;unfold Zb.b20;simp -dsimp[go_sem,wj];exact hC _ _ _ ⟨j+1,a',cc',T',h1,rfl,by simp,by omega,h3⟩ (by simp[iv];omega)
 have hyes:∀w',cond j=true->j<nT->St G W w' (L.set kq (qC 3 a T.length cc (T.flatMap fV)))->Zb.b23 R C5 C10 C (.slice (some a) T.length cc) (.int .i64 q) (.int .i64 j) (.bool true) w':=by
  intro w2 hc hjn s2;unfold Zb.b23;simp -dsimp[go_sem];have s3:=s2.old ((Chg.refl noB w2).alloc (.cells #[.int .i64 q,.int .i64 0,.int .i64 j] 117));unfold Zb.b23_1;simp -dsimp[go_sem];refine s3.qAppend kq (by rw[Qn hkl]) ZZ12 Zwk rfl (by decide) (news:=[.int .i64 q,.int .i64 0,.int .i64 j]) (m:=1) rfl (Zdj w2 [.int .i64 q,.int .i64 0,.int .i64 j] 117 rfl) (by simp[Value.oneCell']) (by unfold maxLen;omega) (by unfold Zaf;omega) ?_;intro a' cc' w4 s4;rw[Qbe]at s4;have e1:T++[((q,0),j)]=t0++Zf6 q (j+1) cond:=by rw[Zlt,hc,if_pos rfl,hTe,Q5]
  have e2:T.flatMap fV++[.int .i64 q,.int .i64 0,.int .i64 j]=(T++[(((q,0),j):It1)]).flatMap fV:=by rw[Qab];simp[fV]
  have e3:T.length+1=(T++[(((q,0),j):It1)]).length:=by simp
  rw[e2,e3]at s4;rw[e3];exact hup w4 a' cc' _ e1 hjn s4
 have hno:∀w',cond j=false->j<nT->St G W w' (L.set kq (qC 3 a T.length cc (T.flatMap fV)))->Zb.b23 R C5 C10 C (.slice (some a) T.length cc) (.int .i64 q) (.int .i64 j) (.bool false) w':=by
  intro w2 hc hjn s2;unfold Zb.b23;simp -dsimp[go_sem];exact hup _ _ _ T (by rw[Zlt,hc];exact hTe) hjn s2
 simp -dsimp[go_sem];refine Za (λ p1=>?_) (λ p1=>?_)<;>simp at p1
 ·obtain ⟨co,_⟩:=Zdo s1 (k:=ko) (by rw[Qs hqo];exact ho) (ms:=out) (j:=j) (by omega);obtain ⟨ob,hob⟩:∃b,out[j]'(by omega)=b:=⟨_,rfl⟩;have hcj:cond j=(ob || (emp && decide (j=z.2))):=by
   rw[<-hcond]
   show (out.getD j false || (emp && decide (j=z.2)))=_
   rw[Qc,Qb (by omega),<-hob];rfl
  rw[hob]at co;unfold Zb.b22;simp -dsimp[go_sem,p1,co]
  cases ob with
  | true=>
   simp -dsimp[go_sem];exact hyes _ (by rw[hcj];rfl) p1 s1
  | false=>
   simp -dsimp[go_sem]
   cases emp with
   | false=>
    simp -dsimp[go_sem];exact hno _ (by rw[hcj];rfl) p1 s1
   | true=>
    simp -dsimp[go_sem];have y1:=(s1.box kb (by rw[Qs hqb];exact hb)).1;simp[Zw,fV]at y1;unfold Zb.b22_1;simp -dsimp[go_sem,y1];have hcj2:cond j=decide (j=z.2):=by rw[hcj];simp
    by_cases e:j=z.2
    ·have e2:((j:Int) == (z.2:Int))=true:=by simp[e]
     rw[e2];exact hyes w1 (by rw[hcj2,decide_eq_true e]) p1 s1
    ·have e2:((j:Int) == (z.2:Int))=false:=by simp;omega
     rw[e2];exact hno w1 (by rw[hcj2,decide_eq_false e]) p1 s1
 ·have hje:j=nT:=by omega
  subst hje;subst hTe;exact hgo w1 a cc s1
section
variable {W w:World} {B:Nat} {g:Gr} {A1 A2 A3 A4:Option Addr} {c1 c2 c3 c4 bb mN mH cH:Nat} {ga:Nat->Nat} {null:List Bool} {hs:List (List Bool)}
theorem _root_.Go.Px.Cn.CanEnv.r4 (e:CanEnv W B g A1 A2 A3 A4 c1 c2 c3 c4 bb mN mH cH ga null hs):(Zq rPr).at1 W B (.slice A4 g.prods.length c4) g.prods:=by
 obtain ⟨_,_,_,_,_,_,_,_,e,_,_,_,_,h5,_⟩:=(Zcg e.gr).ex;injection e with e;injection e with e;simp at e;rw[e.2.2.2.1,e.2.2.2.2];exact h5
theorem Ztt {L:List Ch}{kc kq ko kb o ab cb left n0:Nat}{out:List Bool}{emp:Bool}{z:It1}{t0:List It1}{a0:Addr}{cc0:Nat}{x5:Value}{s:Int}{R:EP}{C5:Value->VP}(env:CanEnv W B g A1 A2 A3 A4 c1 c2 c3 c4 bb mN mH cH ga null hs)
  (hc:L[kc]?=some (canB g A1 A2 A3 A4 c1 c2 c3 c4 bb cb left)) (hq:L[kq]?=some (qC 3 a0 t0.length cc0 (t0.flatMap fV))) (ho:L[ko]?=some (rowC 4 1 (some ⟨o,0,none⟩) g.terms.length g.terms.length (Zaz out))) (hb:L[kb]?=some (boxC ab 117 (fV z))) (hqo:kq≠ko) (hqb:kq≠kb) (hqc:kq≠kc) (st:St noB W w L) (hout:out.length=g.terms.length) (hlen:t0.length<=190000000)
  (hgo:∀w' a' cc',St noB W w' (L.set kq (qC 3 a' (t0++Zf0 g.prods s g.terms.length (λ u=>out.getD u false || (emp && decide (u=z.2))) g.prods.length).length cc' ((t0++Zf0 g.prods s g.terms.length (λ u=>out.getD u false || (emp && decide (u=z.2))) g.prods.length).flatMap fV)))->C5 x5 (.slice (some a') (t0++Zf0 g.prods s g.terms.length (λ u=>out.getD u false || (emp && decide (u=z.2))) g.prods.length).length cc') w') :
  Zb.l10 R C5 (.pointer (some ⟨cb,0,none⟩)) x5 (.slice (some a0) t0.length cc0) (.pointer (some ⟨ab,0,none⟩)) (.int .i64 s) (.slice (some ⟨o,0,none⟩) g.terms.length g.terms.length) (.bool emp) (.int .i64 0) w:=by
 have hkl:=(Qa.1 hq).1;have hL0:L.set kq (qC 3 a0 t0.length cc0 (t0.flatMap fV))=L:=by rw[<-(Qa.1 hq).2,Qai]
 have hT:=env.cl.syms.t1;have hP:=env.cl.prods.c1;obtain ⟨cond,hcond⟩:∃cond:Nat->Bool,(λ u=>out.getD u false || (emp && decide (u=z.2)))=cond:=⟨_,rfl⟩;rw[hcond]at hgo;refine Zb.l10_intro _ _ _ _ _ _ _ _ _ _ _ (λ x y w'=>∃(k:Nat) (a:Addr) (cc:Nat) (T:List It1),T=t0++Zf0 g.prods s g.terms.length cond k/\x = .slice (some a) T.length cc/\y = .int .i64 k/\k<=g.prods.length/\St noB W w' (L.set kq (qC 3 a T.length cc (T.flatMap fV)))) (λ _ y _=>g.prods.length-iv y)
  ⟨0,a0,cc0,t0,by simp[Zf0],rfl,rfl,by omega,by rw[hL0];exact st⟩ ?_
 rintro _ _ w1 ⟨k,a,cc,T,hTe,rfl,rfl,hk,s1⟩ C hC;have wk:=wS k (by omega);have hTl:T.length<=190010000:=by
  rw[hTe,Qq];have h1:=Zni g.prods s g.terms.length k cond;have h2:k*g.terms.length<=97*65:=Qco (by omega) hT;omega
 have hup:∀w' a' cc' T',T'=t0++Zf0 g.prods s g.terms.length cond (k+1)->k<g.prods.length->St noB W w' (L.set kq (qC 3 a' T'.length cc' (T'.flatMap fV)))->Zb.b13 R C5 C (.slice (some a') T'.length cc') (.int .i64 k) w':=by
  intro w' a' cc' T' h1 h2 h3;unfold Zb.b13;simp -dsimp[go_sem,wk];exact hC _ _ _ ⟨k+1,a',cc',T',h1,rfl,by simp,by omega,h3⟩ (by simp[iv];omega)
 have y1:=(s1.box kc (by rw[Qs hqc];exact hc)).1;simp[Zw]at y1;simp -dsimp[go_sem,y1];refine Za (λ p1=>?_) (λ p1=>?_)<;>simp at p1
 ·obtain ⟨b,of,vr,eA,hbB,x1,x2,x3,hr,_⟩:=Zcc env.r4 p1;have x1:=s1.chg.at x1 id;have hlk:lft g.prods k=g.prods[k].1:=by unfold lft;rw[Qc,Qb p1];rfl
  obtain ⟨lf,hlf⟩:∃lf,g.prods[k].1=lf:=⟨_,rfl⟩;rw[hlf]at x1 hlk;rw[eA]at y1;unfold Zb.b15;simp -dsimp[go_sem,y1,p1,x1];by_cases e:lf=s
  ·have e2:(!(lf == s))=false:=by simp[e]
   simp -dsimp[go_sem,e2,e];have hms:∀T',T'=T++Zf6 k g.terms.length cond->T'=t0++Zf0 g.prods s g.terms.length cond (k+1):=λ T' h=>by
    rw[h,Zio,hlk,if_pos e,hTe,Q5]
   refine Zxw (L:=L.set kq (qC 3 a T.length cc (T.flatMap fV))) (kq:=kq) (ko:=ko) (kb:=kb) (emp:=emp) (z:=z) (out:=out) (n0:=0) (by rw[Qn hkl]) (by rw[Qs hqo];exact ho) (by rw[Qs hqb];exact hb) hqo hqb s1 hout hT (by omega) (by omega) ?_;rw[hcond];intro w' a' cc' s2;rw[Qbe]at s2;exact hup w' a' cc' _ (hms _ rfl) p1 s2
  ·rw[show (lf != s)=true by simp[e]];simp -dsimp[go_sem];refine hup w1 a cc T ?_ p1 s1;rw[Zio,hlk,if_neg e];exact hTe
 ·have hke:k=g.prods.length:=by omega
  subst hke;subst hTe;exact hgo w1 a cc s1
end
end Go.Proofs.YtjibcckpehdbhaaGreatDoor
namespace Go.Px.Cn
open Go.Px Go.Px.Scan
theorem Zvb {G:Nat->Prop}{W w:World}{L:List Ch}{A:Option Addr}{c:Nat}{l:List It1}(s:St G W w L)(k:Nat)(hk:L[k]?=some (rowC 117 3 A l.length c (l.flatMap fV))):(Zq rFl).at1 w w.heap.size (.slice A l.length c) l:=by
 obtain ⟨F,ho,hF⟩:=s.get hk;obtain ⟨_,h2,h3⟩:=s.rowSize k hk;refine ⟨A,c,rfl,h2,h3,trivial,λ hp=>?_⟩;obtain ⟨g,eg,_⟩:=Zck ho (λ _ _=>rfl) (by decide) (i:=0) (x:=l[0]) (Qb hp);subst eg;refine ⟨g,0,rfl,?_,λ i x hi=>⟨fV x,rfl,λ j u hj=>?_⟩⟩
 ·have:=(hF g (ho.2 g rfl)).1;exact this
 ·obtain ⟨g',eg',hc,_⟩:=Zck ho (λ _ _=>rfl) (by decide) hi;injection eg' with eg';injection eg' with eg';subst eg';have:=hc j u hj;rw[Qa3];exact this
section
variable {W w:World} {B:Nat} {g:Gr} {A1 A2 A3 A4:Option Addr} {c1 c2 c3 c4 bb mN mH cH:Nat} {ga:Nat->Nat} {null:List Bool} {hs:List (List Bool)}
theorem Ztn (hcl:Zbn g){z z':It1}(h:¬((g.terms.length:Int)<=aftI g.prods z.1/\aftI g.prods z.1<(g.terms.length:Int)+g.nons.length)):¬Succ g.prods (FI g.terms.length null hs) z z':=by
 rintro ⟨s,q,u,h1,h2,h3,_⟩;have e:aftI g.prods z.1=s:=by unfold aftI;rw[h1];rfl
 rw[e]at h;have:=(hcl.syms' g.prods[q] (Qj h2)).1;unfold lft at h3;rw[Qc,Qb h2]at h3;have h3:g.prods[q].1=s:=h3;rw[h3]at this;exact h this
theorem Zwd (env:CanEnv W B g A1 A2 A3 A4 c1 c2 c3 c4 bb mN mH cH ga null hs){z:It1}{s:Int}(hz:ItOk g z)(hs':aft g.prods z.1=some s){out:List Bool}(hout:∀u,u<g.terms.length->out.getD u false=fstB g.terms.length null hs ((rgt g.prods z.1.1).drop (z.1.2+1)) u)(z':It1) :
  z'∈Zf0 g.prods s g.terms.length (λ u=>out.getD u false || (((rgt g.prods z.1.1).drop (z.1.2+1)).all (vanS g.terms.length null) && decide (u=z.2))) g.prods.length↔Succ g.prods (FI g.terms.length null hs) z z':=by
 rw[Zoa];unfold Succ FI;constructor
 ·rintro ⟨q,u,h1,h2,h3,h4,rfl⟩;refine ⟨s,q,u,hs',h1,h2,?_,rfl⟩;rw[hout u h3,Qbl,Qad,decide_eq_true_eq]at h4;exact h4
 ·rintro ⟨s',q,u,h1,h2,h3,h4,rfl⟩;rw[hs']at h1;injection h1 with h1;subst h1;have hu:u<g.terms.length:=by
   rcases h4 with h4|h4
   ·apply Qv;intro h;rw[Zl3 (λ s=>env.out s u h)]at h4;cases h4
   ·rw[h4.2];exact hz.2.2
  refine ⟨q,u,h2,h3,hu,?_,rfl⟩;rw[hout u hu,Qbl,Qad,decide_eq_true_eq];exact h4
theorem ZZ20 {s:Int}{cond:Nat->Bool}:∀z∈Zf0 g.prods s g.terms.length cond g.prods.length,ItOk g z:=by
 intro z hz;obtain ⟨q,u,h1,h2,h3,h4,rfl⟩:=Zoa.1 hz;exact ⟨h1,Qy _,h3⟩
end
end Go.Px.Cn
namespace Go.Proofs.YtjibcckpehdbhaaGreatDoor
open Go.Px Go.Px.Scan Go.Px.Cn Go.RowKit
attribute [-go_sem] Builtin.append_ Zb.b3 Zb.b8_1 Zb.b8_2 Zb.b8_3 Zb.b8_4 Zb.b8_5 Zb.b8 Zb.b25 Zb.b24_1
section
variable {W w:World} {B:Nat} {g:Gr} {A1 A2 A3 A4:Option Addr} {c1 c2 c3 c4 bb mN mH cH:Nat} {ga:Nat->Nat} {null:List Bool} {hs:List (List Bool)}
theorem ZZ32 (env:CanEnv W B g A1 A2 A3 A4 c1 c2 c3 c4 bb mN mH cH ga null hs){M:List Ch}{cb left:Nat}{a:Addr}{cc:Nat}{z:It1}{todo sl:List It1}{As:Option Addr}{cs:Nat}{X3 X4:Ch}{R:EP}{C5:Value->VP}
  (st:St noB W w (canB g A1 A2 A3 A4 c1 c2 c3 c4 bb cb (left+1)::qC 3 a (todo.length+1) cc (fV z++todo.flatMap fV)::rowC 117 3 As sl.length cs (sl.flatMap fV)::X3::X4::M)) (hl:left<=20000) (hsl:sl.length<=20000) (hlen:todo.length<=180000000)
  (hz:ItOk g z) (hsrt:sl.Pairwise fLt)
  (hold:∀w' a' cc' X3' X4',z∈sl->St noB W w' (canB g A1 A2 A3 A4 c1 c2 c3 c4 bb cb (left+1)::qC 3 a' todo.length cc' (todo.flatMap fV)::rowC 117 3 As sl.length cs (sl.flatMap fV)::X3'::X4'::M)->C5 (.slice As sl.length cs) (.slice (some a') todo.length cc') w')
  (hnew:∀w' a' cc' g2 cap more X3' X4',z∉sl->(∀z',z'∈more↔Succ g.prods (FI g.terms.length null hs) z z')->(∀z'∈more,ItOk g z')->more.length<=6305->St noB W w' (canB g A1 A2 A3 A4 c1 c2 c3 c4 bb cb left::qC 3 a' (todo++more).length cc' ((todo++more).flatMap fV)::rowC 117 3 (some ⟨g2,0,none⟩) (sl.length+1) cap ((insF z sl).flatMap fV)::X3'::X4'::M)->C5 (.slice (some ⟨g2,0,none⟩) (sl.length+1) cap) (.slice (some a') (todo++more).length cc') w') :
  Zb.b8 R C5 (.pointer (some ⟨cb,0,none⟩)) (.slice As sl.length cs) (.slice (some a) (todo.length+1) cc) w:=by
 obtain ⟨p1,p2,p3,p4,p5⟩:=st.qAt 1 rfl;have k0:=p5 0 _ rfl;have k1:=p5 1 _ rfl;have k2:=p5 2 _ rfl;obtain ⟨qb,qo,sp⟩:=a;simp only at p4 k0 k1 k2;subst p4;simp only[Qb3]at k0;have s1:=st.qTail' 1 rfl (x:=fV z) (r:=todo.flatMap fV) rfl;have s2:=(s1.alloc #[.int .i64 z.1.1,.int .i64 z.1.2,.int .i64 z.2] 117).swapEnd 3 (by simp);have hcc:1<=cc:=by omega
 have hle1:(1:Int)<=(todo.length:Int)+1:=by omega
 have ea:(if cc=1 then some (⟨qb,qo,none⟩:Addr) else some ⟨qb,qo+3,none⟩)=some (if cc=1 then (⟨qb,qo,none⟩:Addr) else ⟨qb,qo+3,none⟩):=by split<;>rfl
 have hnew0:=Zdj w [.int .i64 z.1.1,.int .i64 z.1.2,.int .i64 z.2] 117 rfl;unfold Zb.b8;simp -dsimp[go_sem,k0,k1,k2,hcc,hle1,ea];generalize (if cc=1 then (⟨qb,qo,none⟩:Addr) else ⟨qb,qo+3,none⟩)=a1 at s2 |-;have s2:St noB W (w.alloc (.cells #[.int .i64 z.1.1,.int .i64 z.1.2,.int .i64 z.2] 117)) (canB g A1 A2 A3 A4 c1 c2 c3 c4 bb cb (left+1)::qC 3 a1 todo.length (cc-1) (todo.flatMap fV)::rowC 117 3 As sl.length cs (sl.flatMap fV)::boxC w.heap.size 117 (fV z)::X4::M):=s2;clear hnew0 k0 k1 k2 p5 s1 st p1;generalize cc-1=cc1 at s2 |-;generalize w.alloc (.cells #[.int .i64 z.1.1,.int .i64 z.1.2,.int .i64 z.2] 117)=w1 at s2 |-;generalize w.heap.size=ab at s2 |-;have y2:=(s2.box 3 rfl).1;simp[Zw,fV]at y2;have hat:=Zvb s2 2 rfl;refine Zi (ZZ67 hat (Ql _) (by omega) hsrt z) ?_;rintro v w2 (⟨hin,rfl,hc2⟩|⟨hin,g2,cap,rfl,sw⟩)
 ·have s3:=s2.old hc2;unfold Zb.b8_5;simp -dsimp[go_sem];exact hold w2 a1 cc1 _ _ hin s3
 ·have s3:=(s2.seq sw).swapEnd 2 (by simp);have s3:St noB W w2 (canB g A1 A2 A3 A4 c1 c2 c3 c4 bb cb (left+1)::qC 3 a1 todo.length cc1 (todo.flatMap fV)::rowC 117 3 (some ⟨g2,0,none⟩) (sl.length+1) cap ((insF z sl).flatMap fV)::boxC ab 117 (fV z)::X4::M):=s3;clear y2 s2 sw hat;have yl:=(s3.box 0 rfl).1;have fl:=(s3.box 0 rfl).2.1;simp[Zw]at yl;have wl:IntKind.i64.wrap (left:Int)=(left:Int):=IntWalk.i64_in _ (by omega);have yb:=(s3.box 3 rfl).1;simp[Zw,fV]at yb;have s4:=(s3.set 0 rfl 6 (.int .i64 left)).old (Chg.refl noB _).drew;unfold Zb.b8_5;simp -dsimp[go_sem];unfold Zb.b8_4;simp -dsimp[go_sem,yl,fl,wl,yb];have s4:St noB W (w2.setCell ⟨cb,6,none⟩ (.int .i64 left)).drew (canB g A1 A2 A3 A4 c1 c2 c3 c4 bb cb left::qC 3 a1 todo.length cc1 (todo.flatMap fV)::rowC 117 3 (some ⟨g2,0,none⟩) (sl.length+1) cap ((insF z sl).flatMap fV)::boxC ab 117 (fV z)::X4::M):=s4;generalize (w2.setCell ⟨cb,6,none⟩ (.int .i64 left)).drew=w3 at s4 |-;clear yl yb fl s3;have hgr:∀w',Chg noB W w'->Zb7.atN w' B (.agg (gQ A1 c1 A2 c2 A3 c3 A4 c4 g)) g/\B<=w'.heap.size:=λ w' hc=>
   ⟨Zx env.gr (hc.below env.hB λ _ _=>id),by have:=hc.size;have:=env.hB;omega⟩
  refine Zi (Zho (hgr w3 s4.chg).1 (hgr w3 s4.chg).2 z.1 ⟨hz.1,hz.2.1⟩) ?_;rintro _ w4 ⟨rfl,hc4⟩;have s5:=s4.old hc4;have y5:=(s5.box 0 rfl).1;simp[Zw]at y5;unfold Zb.b8_3;simp -dsimp[go_sem,y5];have hTN:g.terms.length+g.nons.length<=1000:=by have:=env.cl.syms.t1;have:=env.cl.syms.n1;omega
  refine Zi (Zyj (hgr w4 s5.chg).1 (hgr w4 s5.chg).2 hTN _) ?_;rintro _ w5 ⟨rfl,hc5⟩;have s6:=s5.old hc5;by_cases hno:(g.terms.length:Int)<=aftI g.prods z.1/\aftI g.prods z.1<(g.terms.length:Int)+g.nons.length
  ·rw[decide_eq_true hno];simp -dsimp[go_sem];obtain ⟨s,hs'⟩:∃s,aft g.prods z.1=some s:=by
    cases h:aft g.prods z.1 with
    | some s=>exact ⟨s,rfl⟩
    | none=>unfold aftI at hno;rw[h]at hno;have:=hno.1;simp at this;omega
   have hai:aftI g.prods z.1=s:=by unfold aftI;rw[hs'];rfl
   rw[hai];obtain ⟨pz,hpz⟩:∃p,z.1.1=p:=⟨_,rfl⟩;obtain ⟨dz,hdz⟩:∃d,z.1.2=d:=⟨_,rfl⟩;have hpl:pz<g.prods.length:=by rw[<-hpz];exact hz.1
   obtain ⟨bp,op,vr,eA,hbB,x1,x2,x3,hr,_⟩:=Zcc env.r4 hpl;obtain ⟨Ar,cr,rfl,hrl,hrm,_⟩:=Zz hr;have x2:=s6.chg.at x2 id;obtain ⟨rt,er⟩:∃rt,(g.prods[pz]'hpl).2.1=rt:=⟨_,rfl⟩;have ert:rgt g.prods z.1.1=rt:=by rw[<-er,hpz];simp[rgt,hpl]
   rw[er]at x2 hr hrl;have hdl:dz<rt.length:=by
    unfold aft at hs';rw[ert,hdz]at hs';exact (Qa.1 hs').1
   obtain ⟨br,or',eAr,_⟩:=Go.Px.ints_at hr hdl;subst eAr;have y6:=(s6.box 0 rfl).1;have z6:=(s6.box 3 rfl).1;simp[Zw,fV]at y6 z6;rw[hpz,hdz]at z6;rw[eA]at y6;have wd:IntKind.i64.wrap ((dz:Int)+1)=(dz:Int)+1:=IntWalk.i64_in _ (by unfold maxLen at hrm;omega);have hd1:dz+1<=rt.length:=hdl;have hd2:(dz:Int)+1<=rt.length:=by omega
   have hd3:dz+1<=cr:=by omega
   have hd4:(0:Int)<=(dz:Int)+1:=by omega
   unfold Zb.b8_2;simp -dsimp[go_sem,y6,z6,hpl,x2,wd,hd1,hd2,hd3,hd4];have s7:=s6.old (Chg.refl noB w5).drew;generalize w5.drew=w6 at s7 |-;have hdr:=Rep.below (Ze8 (o':=or'+(dz+1)) hr hd1 (by show _=or'+(dz+1)*1;omega)) (s7.chg.below env.hB λ _ _=>id);have hsy:=(env.cl.syms' (g.prods[pz]'hpl) (Qj hpl)).2;rw[er]at hsy;have hnlc:null.length<=g.nons.length:=by rw[env.nl];exact Ql _
   have hT:=env.cl.syms.t1;have hN:=env.cl.syms.n1;have hct:=Of_ct (W:=W) (w:=w6) s7.chg env.bg hdr (hgr w6 s7.chg).2 hnlc env.hc hT (by rw[env.nl];omega) (λ x hx=>by have:=hsy x (Qb2 hx);rw[env.hl,env.nl];omega);rw[env.nl]at *;refine Zi hct ?_;rintro _ w7 ⟨o,out,rfl,hol,hou,so⟩;have s8:=(s7.seq so).swapEnd 4 (by simp);have s8:St noB W w7 (canB g A1 A2 A3 A4 c1 c2 c3 c4 bb cb left::qC 3 a1 todo.length cc1 (todo.flatMap fV)::rowC 117 3 (some ⟨g2,0,none⟩) (sl.length+1) cap ((insF z sl).flatMap fV)::boxC ab 117 (fV z)::rowC 4 1 (some ⟨o,0,none⟩) g.terms.length g.terms.length (Zaz out)::M):=s8;unfold Zb.b8_1;simp -dsimp[go_sem];refine Ztt env (kc:=0) (kq:=1) (ko:=4) (kb:=3) (z:=z) (n0:=0) (left:=left) rfl rfl rfl rfl (by decide) (by decide) (by decide) s8 hol (by omega) ?_;intro w8 a' cc' s9;have hdrop:(rgt g.prods z.1.1).drop (z.1.2+1)=rt.drop (dz+1):=by rw[ert,hdz]
   have hmo:=Zwd env hz hs' (out:=out) (λ u hu=>by rw[hdrop];exact hou u hu);rw[hdrop]at hmo;refine hnew w8 a' cc' g2 cap _ _ _ hin hmo ZZ20 ?_ s9;have h1:=Zni g.prods s g.terms.length g.prods.length (λ u=>out.getD u false || ((rt.drop (dz+1)).all (vanS g.terms.length null) && decide (u=z.2)));have h2:g.prods.length*g.terms.length<=97*65:=Qco env.cl.prods.c1 hT;omega
  ·rw[decide_eq_false hno];simp -dsimp[go_sem];have:=hnew w5 a1 cc1 g2 cap [] _ _ hin (λ z'=>⟨λ h=>absurd h Qcb,λ h=>absurd h (Ztn env.cl hno)⟩) (λ z' h=>absurd h Qcb) (by simp) (by rw[Qas];exact s6);rw[Qas]at this;exact this
end
section
variable {W w:World} {B:Nat} {g:Gr} {A1 A2 A3 A4:Option Addr} {c1 c2 c3 c4 bb mN mH cH:Nat} {ga:Nat->Nat} {null:List Bool} {hs:List (List Bool)}
theorem Zx7 {a:It1}{s:List It1}:(insF a s).length=s.length+1:=by
 unfold insF;rw[Qq,Qb1];have:∀(p:It1->Bool) (l:List It1),(l.filter p).length+(l.filter λ z=> ! p z).length=l.length:=λ p l=>by
  induction l with
  | nil=>rfl
  | cons x l ih=>cases h:p x<;>simp[h]<;>omega
 have h:=this (λ z=>decide (fLt z a)) s;have e:s.filter (λ z=>decide (¬fLt z a))=s.filter λ z=> !decide (fLt z a):=by
  congr 1;funext z;simp
 rw[e];omega
theorem Zku (env:CanEnv W B g A1 A2 A3 A4 c1 c2 c3 c4 bb mN mH cH ga null hs){M:List Ch}{cb left0:Nat}{a0:Addr}{cc0:Nat}{l0:List It1}{X2 X3 X4:Ch}
  (st:St noB W w (canB g A1 A2 A3 A4 c1 c2 c3 c4 bb cb left0::qC 3 a0 l0.length cc0 (l0.flatMap fV)::X2::X3::X4::M)) (hl0:left0<=20000) (hlen:l0.length<=1000000) (hok:∀z∈l0,ItOk g z) :
  Ct Tryz.prog Zb.id #[.pointer (some ⟨cb,0,none⟩),.slice (some a0) l0.length cc0] w λ v w'=>∃(left':Nat) (A:Option Addr) (c:Nat) (r:List It1),v = .slice A r.length c/\left'<=left0/\r.Pairwise fLt/\(∀z∈r,ItOk g z)/\r.length+left'<=left0/\(0<left'->∀z,z∈r↔Cl1 g.prods (FI g.terms.length null hs) (·∈l0) z) /\
   ∃X1 X3 X4,St noB W w' (canB g A1 A2 A3 A4 c1 c2 c3 c4 bb cb left'::X1::rowC 117 3 A r.length c (r.flatMap fV)::X3::X4::M):=by
 refine Zb.ct λ R hR=>?_;have s0:=(st.nilRow 117 3).swapEnd 2 (by simp);have s0:St noB W w (canB g A1 A2 A3 A4 c1 c2 c3 c4 bb cb left0::qC 3 a0 l0.length cc0 (l0.flatMap fV)::rowC 117 3 none 0 0 []::X3::X4::M):=s0;unfold Zb.run;simp -dsimp[go_sem]
 let J:Value->Value->World->Nat->Prop:=λ x y w' f=>∃(left:Nat) (s todo:List It1) (a:Addr) (cc:Nat) (As:Option Addr) (cs:Nat),x = .slice As s.length cs/\y = .slice (some a) todo.length cc/\ClI1 g.prods (FI g.terms.length null hs) l0 s todo/\(∀z∈s,ItOk g z)/\(∀z∈todo,ItOk g z)/\s.length+left<=left0/\todo.length+left*6305<=l0.length+left0*6305 /\
  (∃X3 X4,St noB W w' (canB g A1 A2 A3 A4 c1 c2 c3 c4 bb cb left::qC 3 a todo.length cc (todo.flatMap fV)::rowC 117 3 As s.length cs (s.flatMap fV)::X3::X4::M))/\f=left*6306+todo.length
 refine Zb.l5_intro _ _ _ _ _ (λ x y w'=>∃f,J x y w' f) (λ x y w'=>muOf (J x y) w') ⟨_,left0,[],l0,a0,cc0,none,0,rfl,rfl,ClI1.start l0,by simp,hok,by simp,by omega,⟨_,_,s0⟩,rfl⟩ ?_;rintro x5 y5 w1 hJ C hC;have hJm:=Zfy hJ;have hfin:∀x6 y6 w6 f,J x6 y6 w6 f->f<muOf (J x5 y5) w1->C x6 y6 w6:=λ x6 y6 w6 f h1 h2=>hC _ _ _ ⟨f,h1⟩ (Qbd (Zfw h1) h2);obtain ⟨left,s,todo,a,cc,As,cs,rfl,rfl,hcl,hs,htd,hsl,htl,⟨X3',X4',s1⟩,hf⟩:=hJm;rw[hf]at hfin;clear hf hC hJ s0 st;have hret:∀w',(0<left->todo=[])->St noB W w' (canB g A1 A2 A3 A4 c1 c2 c3 c4 bb cb left::qC 3 a todo.length cc (todo.flatMap fV)::rowC 117 3 As s.length cs (s.flatMap fV)::X3'::X4'::M)->Zb.b3 R (.slice As s.length cs) w':=by
  intro w' h1 h2;unfold Zb.b3;refine hR _ _ ⟨left,As,cs,s,rfl,by omega,hcl.srt,hs,hsl,λ hp z=>?_,_,_,_,h2⟩;have:=h1 hp;subst this;exact hcl.fin z
 simp -dsimp[go_sem];refine Za (λ p1=>?_) (λ p1=>?_)<;>simp at p1
 ·have y1:=(s1.box 0 rfl).1;simp[Zw]at y1;unfold Zb.b24_1;simp -dsimp[go_sem,y1];unfold Zb.b25;refine Za (λ p2=>?_) (λ p2=>?_)<;>simp at p2
  ·obtain ⟨z,r,rfl⟩:=List.exists_cons_of_ne_nil (Qa6.1 p1);obtain ⟨left,rfl⟩:∃l,left=l+1:=⟨left-1,by omega⟩;have hzr:=htd z (by simp);have hrr:∀z∈r,ItOk g z:=λ y hy=>htd y (by simp[hy]);have s2:St noB W w1 (canB g A1 A2 A3 A4 c1 c2 c3 c4 bb cb (left+1)::qC 3 a (r.length+1) cc (fV z++r.flatMap fV)::rowC 117 3 As s.length cs (s.flatMap fV)::X3'::X4'::M):=s1;have hlr:(z::r).length=r.length+1:=rfl;rw[hlr]at htl hfin |-;refine ZZ32 env s2 (by omega) (by omega) (by omega) hzr hcl.srt ?_ ?_
   ·intro w' a' cc' X5 X6 hin s3;exact hfin _ _ _ _ ⟨left+1,s,r,a',cc',As,cs,rfl,rfl,hcl.old hin,hs,hrr,hsl,by omega,⟨_,_,s3⟩,rfl⟩ (by omega)
   ·intro w' a' cc' g2 cap more X5 X6 hin hmo hmok hml s3;have hi:=Zx7 (a:=z) (s:=s);refine hfin _ _ _ _ ⟨left,insF z s,r++more,a',cc',some ⟨g2,0,none⟩,cap,by rw[hi],rfl,hcl.new hin hmo,λ y hy=>?_,λ y hy=>?_,by omega,by rw[Qq];omega,⟨_,_,by rw[hi];exact s3⟩,rfl⟩ (by rw[Qq];omega)
    ·rcases Zhi.1 hy with rfl|hy
     ·exact hzr
     ·exact hs y hy
    ·rcases Qk.1 hy with hy|hy
     ·exact hrr y hy
     ·exact hmok y hy
  ·exact hret _ (λ h=>absurd h (by omega)) s1
 ·unfold Zb.b25;simp -dsimp[go_sem];exact hret _ (λ _=>p1) s1
end
end Go.Proofs.YtjibcckpehdbhaaGreatDoor
namespace Go.Px.Cn
open Go.Px
theorem Zit {α:Type}{a b:List α}{i:Nat}(h1:i<a.length)(h2:i<b.length)(h:a.take i=b.take i)(e:a[i]=b[i]):a.take (i+1)=b.take (i+1):=by
 rw[Qd h1,Qd h2,h,e]
end Go.Px.Cn
namespace Go.Proofs.YtjibcckpehdbhaaGreatDoor
open Go.Px Go.Px.Scan Go.Px.Cn Go.RowKit
attribute [-go_sem] Builtin.append_ Zdb.b3 Zdb.b7_1 Zdb.b4 Zba.b3 Zba.b7_1 Zba.b4 Zbq.b3 Zbq.b9 Zbq.b12_1 Zbq.b12 Zbq.b11_1 Zbq.b11
theorem Zy0 {w:World}{B1 B2 c1 c2:Nat}{A1 A2:Option Addr}{a b:List It1}(ha:(Zq rFl).at1 w B1 (.slice A1 a.length c1) a)(hb:(Zq rFl).at1 w B2 (.slice A2 b.length c2) b)(hB1:B1<=w.heap.size)(hB2:B2<=w.heap.size)(hla:a.length<=1000000) :
  Ct Tryz.prog Zdb.id #[.slice A1 a.length c1,.slice A2 b.length c2] w λ v w'=>(∃r,v = .bool r/\(r=true↔a=b))/\Chg noB w w':=by
 refine Zdb.ct λ R hR=>?_;unfold Zdb.run;simp -dsimp[go_sem];refine Za (λ p0=>?_) (λ p0=>?_)<;>simp at p0
 ·exact hR _ _ ⟨⟨false,rfl,⟨λ h=>(by cases h),λ h=>absurd (by rw[h]) p0⟩⟩,Chg.refl _ _⟩
 have hlen:a.length=b.length:=by omega
 unfold Zdb.b4;refine Zdb.l6_intro _ _ _ _ _ (λ y w'=>∃i:Nat,y = .int .i64 i/\i<=a.length/\a.take i=b.take i/\Chg noB w w') (λ y _=>a.length-iv y) ⟨0,rfl,by omega,by simp,Chg.refl _ _⟩ ?_;rintro _ w1 ⟨i,rfl,hi,hte,hc1⟩ C hC;have wi:=wS i (by omega);simp -dsimp[go_sem];refine Za (λ p1=>?_) (λ p1=>?_)<;>simp at p1
 ·have p2:i<b.length:=by omega
  obtain ⟨ba,oa,rfl,_,k1,k2,k3⟩:=Zi0 (Rep.below ha (hc1.below hB1 λ _ _=>id)) p1;obtain ⟨bb,ob,rfl,_,m1,m2,m3⟩:=Zi0 (Rep.below hb (hc1.below hB2 λ _ _=>id)) p2;obtain ⟨x,hx⟩:∃x,a[i]=x:=⟨_,rfl⟩;obtain ⟨y,hy⟩:∃y,b[i]=y:=⟨_,rfl⟩;rw[hx]at k1 k2 k3;rw[hy]at m1 m2 m3;unfold Zdb.b7_1;simp -dsimp[go_sem,p1,p2,k1,k2,k3,m1,m2,m3,wi];refine Za (λ p3=>?_) (λ p3=>?_)<;>simp at p3
  ·refine hR _ _ ⟨⟨false,rfl,⟨λ h=>(by cases h),λ h=>?_⟩⟩,hc1.drew⟩;subst h;rw[hx]at hy;subst hy;omega
  ·simp -dsimp[go_sem,wi];refine hC _ _ ⟨i+1,by simp,by omega,Zit p1 p2 hte ?_,hc1.drew⟩ (by simp[iv];omega);rw[hx,hy];refine Prod.ext (Prod.ext ?_ ?_) ?_<;>omega
 ·unfold Zdb.b3;have hie:i=a.length:=by omega
  rw[hie,Qm,hlen,Qm]at hte;exact hR _ _ ⟨⟨true,rfl,by simp[hte]⟩,hc1⟩
theorem Zob {w:World}{B1 B2 c1 c2:Nat}{A1 A2:Option Addr}{a b:List It}(ha:(Zq rIt).at1 w B1 (.slice A1 a.length c1) a)(hb:(Zq rIt).at1 w B2 (.slice A2 b.length c2) b)(hB1:B1<=w.heap.size)(hB2:B2<=w.heap.size)(hla:a.length<=1000000) :
  Ct Tryz.prog Zba.id #[.slice A1 a.length c1,.slice A2 b.length c2] w λ v w'=>(∃r,v = .bool r/\(r=true↔a=b))/\Chg noB w w':=by
 refine Zba.ct λ R hR=>?_;unfold Zba.run;simp -dsimp[go_sem];refine Za (λ p0=>?_) (λ p0=>?_)<;>simp at p0
 ·exact hR _ _ ⟨⟨false,rfl,⟨λ h=>(by cases h),λ h=>absurd (by rw[h]) p0⟩⟩,Chg.refl _ _⟩
 have hlen:a.length=b.length:=by omega
 unfold Zba.b4;refine Zba.l6_intro _ _ _ _ _ (λ y w'=>∃i:Nat,y = .int .i64 i/\i<=a.length/\a.take i=b.take i/\Chg noB w w') (λ y _=>a.length-iv y) ⟨0,rfl,by omega,by simp,Chg.refl _ _⟩ ?_;rintro _ w1 ⟨i,rfl,hi,hte,hc1⟩ C hC;have wi:=wS i (by omega);simp -dsimp[go_sem];refine Za (λ p1=>?_) (λ p1=>?_)<;>simp at p1
 ·have p2:i<b.length:=by omega
  obtain ⟨ba,oa,rfl,_,k1,k2⟩:=Zgv (Rep.below ha (hc1.below hB1 λ _ _=>id)) p1;obtain ⟨bb,ob,rfl,_,m1,m2⟩:=Zgv (Rep.below hb (hc1.below hB2 λ _ _=>id)) p2;obtain ⟨x,hx⟩:∃x,a[i]=x:=⟨_,rfl⟩;obtain ⟨y,hy⟩:∃y,b[i]=y:=⟨_,rfl⟩;rw[hx]at k1 k2;rw[hy]at m1 m2;unfold Zba.b7_1;simp -dsimp[go_sem,p1,p2,k1,k2,m1,m2,wi];refine Za (λ p3=>?_) (λ p3=>?_)<;>simp at p3
  ·refine hR _ _ ⟨⟨false,rfl,⟨λ h=>(by cases h),λ h=>?_⟩⟩,hc1.drew⟩;subst h;rw[hx]at hy;subst hy;omega
  ·simp -dsimp[go_sem,wi];refine hC _ _ ⟨i+1,by simp,by omega,Zit p1 p2 hte ?_,hc1.drew⟩ (by simp[iv];omega);rw[hx,hy];refine Prod.ext ?_ ?_<;>omega
 ·unfold Zba.b3;have hie:i=a.length:=by omega
  rw[hie,Qm,hlen,Qm]at hte;exact hR _ _ ⟨⟨true,rfl,by simp[hte]⟩,hc1⟩
end Go.Proofs.YtjibcckpehdbhaaGreatDoor
namespace Go.Px.Cn
open Go.Px
instance (x y:It):Decidable (itLt x y):=by unfold itLt;infer_instance
def insI (a:It)(l:List It):List It:=l.filter (λ x=>decide (itLt x a))++a::l.filter (λ x=>¬decide (itLt x a))
theorem Zza {a x:It}{l:List It}:x∈insI a l↔x=a\/x∈l:=by
 unfold insI;simp only[Qk,Qaa,Qz];by_cases h:itLt x a<;>simp[h,or_comm]
theorem Zzh {l:List It}{a:It}{k:Nat}(hk:k<=l.length)(h1:∀i (h:i<l.length),i<k->itLt l[i] a)(h2:∀i (h:i<l.length),k<=i->¬itLt l[i] a):insI a l=l.take k++a::l.drop k:=by
 have e1:l.filter (λ z=>decide (itLt z a))=l.take k:=by
  conv=>lhs;rw[<-Qag k l]
  rw[Qae,Qbi.2,Qbf.2,Qas]
  ·intro z hz;obtain ⟨i,hi,rfl⟩:=Q3 hz;rw[Qb6];have:=h2 (k+i) (by rw[Q7]at hi;omega) (by omega);simpa using this
  ·intro z hz;obtain ⟨i,hi,rfl⟩:=Q3 hz;rw[Qcj];rw[Q6]at hi;have:=h1 i (by omega) (by omega);simpa using this
 have e2:l.filter (λ z=>¬decide (itLt z a))=l.drop k:=by
  conv=>lhs;rw[<-Qag k l]
  rw[Qae,Qbf.2,Qbi.2,Qcz]
  ·intro z hz;obtain ⟨i,hi,rfl⟩:=Q3 hz;rw[Qb6];have:=h2 (k+i) (by rw[Q7]at hi;omega) (by omega);simpa using this
  ·intro z hz;obtain ⟨i,hi,rfl⟩:=Q3 hz;rw[Qcj];rw[Q6]at hi;have:=h1 i (by omega) (by omega);simpa using this
 unfold insI;rw[e1,e2]
theorem Zq4 {x y:It}(h:¬itLt x y)(hne:x≠y):itLt y x:=by
 unfold itLt at *;have:x.1≠y.1\/x.2≠y.2:=by
  refine Qv λ h=>hne ?_;refine Prod.ext ?_ ?_<;>omega
 omega
theorem Zy3 {a:It}{l:List It}(h:l.Pairwise itLt)(ha:a∉l):(insI a l).Pairwise itLt:=by
 unfold insI;refine Qao.2 ⟨h.filter _,Qcc.2 ⟨λ x hx=>?_,h.filter _⟩,λ x hx y hy=>?_⟩
 ·have:=Qz.1 hx;have h1:¬itLt x a:=by simpa using this.2
  exact Zq4 h1 λ e=>ha (e ▸ this.1)
 ·have h1:itLt x a:=by simpa using (Qz.1 hx).2
  rcases Qaa.1 hy with rfl|hy
  ·exact h1
  ·have h2:¬itLt y a:=by simpa using (Qz.1 hy).2
   exact Zlw _ _ _ h1 (Zq4 h2 λ e=>ha (e ▸ (Qz.1 hy).1))
end Go.Px.Cn
namespace Go.Proofs.YtjibcckpehdbhaaGreatDoor
open Go.Px Go.Px.Scan Go.Px.Cn Go.RowKit
attribute [-go_sem] Builtin.append_ Zab.b3 Zab.b9 Zab.b14 Zab.b16 Zab.b15_1 Zab.b15 Zab.b20 Zab.b22 Zab.b21_1 Zab.b21_2 Zab.b21_3 Zab.b11 Zdm.b3 Zdm.b7_1
theorem Zrl {a:It}:∀u∈itV a,u.oneCell'=true:=λ u hu=>by simp[itV]at hu;rcases hu with rfl | rfl<;>rfl
theorem Zhr {G:Nat->Prop}{W w:World}{L:List Ch}{A:Option Addr}{n c:Nat}{l:List It}(s:St G W w L)(k:Nat)(hn:n=l.length)(hk:L[k]?=some (rowC 89 2 A n c (l.flatMap itV))):(Zq rIt).at1 w w.heap.size (.slice A l.length c) l:=by
 subst hn;obtain ⟨F,ho,hF⟩:=s.get hk;obtain ⟨_,h2,h3⟩:=s.rowSize k hk;refine ⟨A,c,rfl,h2,h3,trivial,λ hp=>?_⟩;obtain ⟨g,eg,_⟩:=Zck ho (λ _ _=>rfl) (by decide) (i:=0) (x:=l[0]) (Qb hp);subst eg;refine ⟨g,0,rfl,?_,λ i x hi=>⟨itV x,rfl,λ j u hj=>?_⟩⟩
 ·have:=(hF g (ho.2 g rfl)).1;exact this
 ·obtain ⟨g',eg',hc,_⟩:=Zck ho (λ _ _=>rfl) (by decide) hi;injection eg' with eg';injection eg' with eg';subst eg';have:=hc j u hj;rw[Qa3];exact this
theorem ZZ18 {w:World}{B c:Nat}{A:Option Addr}{l:List It}(h:(Zq rIt).at1 w B (.slice A l.length c) l)(hB:B<=w.heap.size)(hl:l.length<=1000000)(x:It) :
  Ct Tryz.prog Zdm.id #[.slice A l.length c,.agg #[.int .i64 x.1,.int .i64 x.2]] w λ v w'=>(∃b,v = .bool b/\(b=true↔x∈l))/\Chg noB w w':=by
 refine Zdm.ct λ R hR=>?_;have s1:=(St.refl noB w).alloc #[.int .i64 x.1,.int .i64 x.2] 89;unfold Zdm.run;simp -dsimp[go_sem];generalize w.alloc (.cells #[.int .i64 x.1,.int .i64 x.2] 89)=w1 at s1 |-;generalize w.heap.size=q at s1 |-;refine Zdm.l6_intro _ _ _ _ _ (λ y w'=>∃k:Nat,y = .int .i64 k/\k<=l.length/\x∉l.take k/\St noB w w' [boxC q 89 [.int .i64 x.1,.int .i64 x.2]]) (λ y _=>l.length-iv y)
  ⟨0,rfl,by omega,by simp,s1⟩ ?_
 rintro _ w2 ⟨k,rfl,hk,hx,s2⟩ C hC;have y2:=(s2.box 0 rfl).1;simp[Zw]at y2;simp -dsimp[go_sem];refine Za (λ p1=>?_) (λ p1=>?_)<;>simp at p1
 ·have wk:=wS k (by omega);obtain ⟨b,o,rfl,hb,k1,k2⟩:=Zgv h p1;have k1:=s2.chg.at k1 id;have k2:=s2.chg.at k2 id;obtain ⟨z,hz⟩:∃z,l[k]=z:=⟨_,rfl⟩;rw[hz]at k1 k2;unfold Zdm.b7_1;simp -dsimp[go_sem,p1,k1,k2,y2];refine Za (λ p2=>?_) (λ p2=>?_)<;>simp at p2
  ·have e:z=x:=Prod.ext (by omega) (by omega);exact hR _ _ ⟨⟨true,rfl,by rw[<-e,<-hz];simp⟩,s2.chg.drew⟩
  ·simp -dsimp[go_sem,wk];refine hC _ _ ⟨k+1,by simp,by omega,?_,s2.old (Chg.refl noB w2).drew⟩ (by simp[iv];omega);rw[Qd p1,hz,Qk,Qg];rintro (h|h)
   ·exact hx h
   ·subst h;exact p2 rfl rfl
 ·have:k=l.length:=by omega
  subst this;unfold Zdm.b3;rw[Qm]at hx;exact hR _ _ ⟨⟨false,rfl,by simp[hx]⟩,s2.chg⟩
theorem Ztv {w:World}{B c:Nat}{A:Option Addr}{l:List It}(h:(Zq rIt).at1 w B (.slice A l.length c) l)(hB:B<=w.heap.size)(hl:l.length<=1000000) :
  Ct Tryz.prog Zab.id #[.slice A l.length c] w λ v w'=>∃(A':Option Addr) (c':Nat) (r:List It),v = .slice A' r.length c'/\r.Pairwise itLt/\(∀x,x∈r↔x∈l)/\r.length<=l.length/\St noB w w' [rowC 89 2 A' r.length c' (r.flatMap itV)]:=by
 refine Zab.ct λ R hR=>?_;unfold Zab.run;simp -dsimp[go_sem];refine Zab.l6_intro _ _ _ _ _ (λ x y w'=>∃(i:Nat) (A':Option Addr) (c':Nat) (r:List It),x = .slice A' r.length c'/\y = .int .i64 i/\i<=l.length/\r.Pairwise itLt/\(∀x,x∈r↔x∈l.take i)/\r.length<=i/\St noB w w' [rowC 89 2 A' r.length c' (r.flatMap itV)]) (λ _ y _=>l.length-iv y)
  ⟨0,none,0,[],rfl,rfl,Qy _,List.Pairwise.nil,by simp,by simp,(St.refl noB w).nilRow 89 2⟩ ?_
 rintro _ _ w1 ⟨i,A',c',r,rfl,rfl,hi,hrs,hrm,hrl,s1⟩ C hC;simp -dsimp[go_sem];refine Za (λ p1=>?_) (λ p1=>?_)<;>simp at p1
 ·have wi:=wS i (by omega);obtain ⟨b,o,rfl,hb,k1,k2⟩:=Zgv h p1;obtain ⟨a,ha⟩:∃a,l[i]=a:=⟨_,rfl⟩;rw[ha]at k1 k2;have htk:∀x,x∈l.take (i+1)↔x=a\/x∈r:=λ x=>by
   rw[Qd p1,ha,Qk,Qg,hrm,or_comm]
  have again:∀(w':World) (A2:Option Addr) (c2:Nat) (r2:List It),r2.Pairwise itLt->(∀x,x∈r2↔x=a\/x∈r)->r2.length<=i+1->St noB w w' [rowC 89 2 A2 r2.length c2 (r2.flatMap itV)]->Zab.b9 R C (.slice A2 r2.length c2) (.int .i64 i) w':=by
   intro w' A2 c2 r2 g1 g2 g3 s';unfold Zab.b9;simp -dsimp[go_sem,wi];exact hC _ _ _ ⟨i+1,A2,c2,r2,rfl,by simp,by omega,g1,λ x=>by rw[g2,htk],g3,s'⟩ (by simp[iv];omega)
  unfold Zab.b11;refine Zab.l18_intro _ _ _ _ _ _ _ (λ y w'=>∃k:Nat,y = .int .i64 k/\k<=r.length/\(∀j (h:j<r.length),j<k->itLt r[j] a)/\St noB w w' [rowC 89 2 A' r.length c' (r.flatMap itV)]) (λ y _=>r.length-iv y)
   ⟨0,rfl,Qy _,λ j h h2=>by omega,s1⟩ ?_
  rintro _ w2 ⟨k,rfl,hk,h1,s2⟩ C2 hC2;have hrd:=Zhr s2 0 rfl rfl;have k1:=s2.chg.at k1 id;have k2:=s2.chg.at k2 id;have s3:=s2.old (Chg.refl noB w2).drew;have fin:(∀j (h:j<r.length),k<=j->¬itLt r[j] a)->∀w',Chg noB w2 w'->Zab.b15 R C (.slice (some ⟨b,o,none⟩) l.length c) (.slice A' r.length c') (.int .i64 i) (.int .i64 k) w':=by
   intro h2 w3 hc3;have s3:=s2.old hc3;have k1:=hc3.at k1 id;have k2:=hc3.at k2 id;have hins:=Zzh hk h1 h2;have hil:(insI a r).length=r.length+1:=by rw[hins];simp;omega
   have fin2:a∉r->∀w',Chg noB w3 w'->Zab.b14 R C (.slice (some ⟨b,o,none⟩) l.length c) (.slice A' r.length c') (.int .i64 i) (.int .i64 k) w':=by
    intro hna w4 hc4;have s4:=s3.old hc4;have k1:=hc4.at k1 id;have k2:=hc4.at k2 id;have h:=Zhr s4 0 rfl rfl;obtain ⟨_,hlc,hcm⟩:=s4.rowSize 0 rfl;have s5:=(St.refl noB w4).nilRow 89 2;have key:∀x0 v1 v3:Value,(Zq rIt).at1 w4 w4.heap.size v1 (r.take k)->(Zq rIt).at1 w4 w4.heap.size v3 (r.drop k)->(∀w,Sem.run Tryz.prog (Instr.sliceAt 90 x0 (some (.int .i64 k)) none none) w = .ok v3 w)->RES (pan R) (Sem.run Tryz.prog (Builtin.append_ #[90,90] 90 #[Value.slice none 0 0,v1]) w4) λ v3' w4=>
      RUN Tryz.prog (pan R) (Instr.indexAt 90 (.slice (some ⟨b,o,none⟩) l.length c) (.int .i64 i)) w4 λ v5 w6=>
      RUN Tryz.prog (pan R) (Instr.loadAt 89 v5) w6 λ v7 w8=>
      RUN Tryz.prog (pan R) (Instr.buildSlice 90 1 #[(0,v7)]) w8 λ v9 w10=>
      RUN Tryz.prog (pan R) (Builtin.append_ #[90,90] 90 #[v3',v9]) w10 λ v11 w12=>
      RUN Tryz.prog (pan R) (Instr.sliceAt 90 x0 (some (.int .i64 k)) none none) w12 λ v13 w14=>
      RUN Tryz.prog (pan R) (Builtin.append_ #[90,90] 90 #[v11,v13]) w14 λ v15 w16=>
      Zab.b9 R C v15 (.int .i64 i) w16:=by
     intro x0 v1 v3 hv1 hv3 hsl;have hlt:(r.take k).length=k:=by rw[Q6];omega
     have hld:(r.drop k).length=r.length-k:=by rw[Q7]
     obtain ⟨A1,d1,rfl,_⟩:=Zz hv1;obtain ⟨A3,d3,rfl,_⟩:=Zz hv3;refine s5.appendRd (r:=rIt) (enc:=itV) 0 rfl Zhk Zne rfl (by decide) hv1 (λ h _=>h) (λ x _=>Zrl) (λ _ _=>rfl) (by unfold maxLen;omega) (by unfold Zaf;omega) ?_;intro a1 cap1 w6 s6;rw[show 0+(r.take k).length=k by omega]at s6 |-;have s6:St noB w4 w6 [rowC 89 2 a1 k cap1 ([]++(r.take k).flatMap itV)]:=s6;have k1:=s6.chg.at k1 id;have k2:=s6.chg.at k2 id;simp -dsimp[go_sem,p1,k1,k2];refine s6.append1 0 rfl Zhk Zne rfl (by decide) (news:=[.int .i64 a.1,.int .i64 a.2]) rfl (Zrl (a:=a)) (by unfold maxLen;omega) (by unfold Zaf;omega) ?_;intro g2 cap2 w7 s7;have s7:St noB w4 w7 [rowC 89 2 (some ⟨g2,0,none⟩) (k+1) cap2 ([]++(r.take k).flatMap itV++itV a)]:=s7;simp -dsimp only[go_sem,hsl];refine s7.appendRd (r:=rIt) (enc:=itV) 0 rfl Zhk Zne rfl (by decide) (Rep.below hv3 (s7.chg.below (Ql _) λ _ _=>id)) (λ h _=>h) (λ x _=>Zrl) (λ _ _=>rfl) (by unfold maxLen;omega) (by unfold Zaf;omega) ?_;intro a3 cap3 w8 s8;have s8:St noB w4 w8 [rowC 89 2 a3 (k+1+(r.drop k).length) cap3 ([]++(r.take k).flatMap itV++itV a++(r.drop k).flatMap itV)]:=s8;have e:k+1+(r.drop k).length=(insI a r).length:=by omega
     rw[e]at s8 |-;have e2:[]++(r.take k).flatMap itV++itV a++(r.drop k).flatMap itV=(insI a r).flatMap itV:=by rw[hins];simp
     rw[e2]at s8;exact again w8 a3 cap3 (insI a r) (Zy3 hrs hna) (λ x=>Zza) (by omega) (s8.lower s4.chg)
    unfold Zab.b14
    cases A' with
    | none=>
     have hn:r=[]:=Zj4 h;subst hn;have h0:k=0:=by simpa using hk
     subst h0;simp -dsimp[go_sem];exact key (.slice none 0 c') (.slice none 0 c') (.slice none 0 c') h h λ w=>by simp -dsimp[go_sem]
    | some A=>
     have hkc:k<=c':=by omega
     have k1:=Zid h (k:=k) (by omega);have k3:=Zg0 h (k:=k) (by omega);rw[show (r.take k).length=k by rw[Q6];omega]at k1;rw[Q7]at k3;obtain ⟨b,o,sp⟩:=A;simp -dsimp[go_sem,hk,hlc,hkc];refine key _ _ _ k1 k3 λ w=>?_;simp -dsimp[go_sem,hk,hlc,hkc,rIt]
   unfold Zab.b15;simp -dsimp[go_sem];refine Za (λ p2=>?_) (λ p2=>?_)<;>simp at p2
   ·obtain ⟨b',o',e9,hb',j1,j2⟩:=Zgv (Zhr s3 0 rfl rfl) p2;subst e9;obtain ⟨z,hz⟩:∃z,r[k]=z:=⟨_,rfl⟩;rw[hz]at j1 j2;unfold Zab.b15_1;simp -dsimp[go_sem,p1,p2,k1,k2,j1,j2];unfold Zab.b16;refine Za (λ p3=>?_) (λ p3=>?_)<;>simp at p3
    ·have e:z=a:=Prod.ext (by omega) (by omega);refine again _ _ _ r hrs (λ x=>?_) (by omega) (s3.old (Chg.refl noB w3).drew);constructor
     ·exact Or.inr
     ·rintro (rfl|h)
      ·rw[<-e,<-hz];exact Qj p2
      ·exact h
    ·refine fin2 (λ har=>?_) _ (Chg.refl noB w3).drew;obtain ⟨j,hj,e⟩:=Q3 har;by_cases hjk:j<k
     ·have:=h1 j hj hjk;rw[e]at this;exact Zie _ this
     ·by_cases hjk2:j=k
      ·subst hjk2;rw[hz]at e;subst e;exact p3 rfl rfl
      ·have:=(Qt.1 hrs) k j p2 hj (by omega);rw[e]at this;exact h2 k p2 (Ql _) this
   ·unfold Zab.b16;simp -dsimp[go_sem];refine fin2 (λ har=>?_) _ (Chg.refl noB w3).drew;obtain ⟨j,hj,e⟩:=Q3 har;have:=h1 j hj (by omega);rw[e]at this;exact Zie _ this
  have next:∀(p2:k<r.length),itLt r[k] a->∀w',Chg noB w2 w'->Zab.b20 R C C2 (.int .i64 k) w':=by
   intro p2 hlt w3 hc3;have wk:=wS k (by omega);unfold Zab.b20;simp -dsimp[go_sem,wk];refine hC2 _ _ ⟨k+1,by simp,by omega,λ j hj hjk=>?_,s2.old hc3⟩ (by simp[iv];omega);by_cases e:j=k
   ·subst e;exact hlt
   ·exact h1 j hj (by omega)
  have stop:∀(p2:k<r.length),¬itLt r[k] a->∀j (h:j<r.length),k<=j->¬itLt r[j] a:=by
   intro p2 hnl j hj hkj hlt;by_cases e:j=k
   ·subst e;exact hnl hlt
   ·exact hnl (Zlw _ _ _ ((Qt.1 hrs) k j p2 hj (by omega)) hlt)
  simp -dsimp[go_sem];refine Za (λ p2=>?_) (λ p2=>?_)<;>simp at p2
  ·obtain ⟨b',o',e9,hb',j1,j2⟩:=Zgv hrd p2;subst e9;obtain ⟨z,hz⟩:∃z,r[k]=z:=⟨_,rfl⟩;rw[hz]at j1 j2;have hnext:=next p2;have hstop:=stop p2;rw[hz]at hnext hstop;have hd:=(Chg.refl noB w2).drew;unfold Zab.b21_3;simp -dsimp[go_sem,p1,p2,k1,k2,j1,j2];refine Za (λ p3=>?_) (λ p3=>?_)<;>simp at p3
   ·unfold Zab.b22;simp -dsimp[go_sem];exact hnext (Or.inl (by omega)) _ hd
   ·unfold Zab.b21_2;simp -dsimp[go_sem,p1,p2,k1,k2,j1,j2];refine Za (λ p4=>?_) (λ p4=>?_)<;>simp at p4
    ·unfold Zab.b21_1;simp -dsimp[go_sem,p1,p2,k1,k2,j1,j2];unfold Zab.b22;refine Za (λ p5=>?_) (λ p5=>?_)<;>simp at p5
     ·exact hnext (Or.inr ⟨by omega,by omega⟩) _ hd
     ·exact fin (hstop (by unfold itLt;omega)) _ hd
    ·unfold Zab.b22;simp -dsimp[go_sem];exact fin (hstop (by unfold itLt;omega)) _ hd
  ·unfold Zab.b22;simp -dsimp[go_sem];exact fin (λ j hj hkj=>by omega) _ (Chg.refl noB w2).drew
 ·have:i=l.length:=by omega
  subst this;unfold Zab.b3;exact hR _ _ ⟨A',c',r,rfl,hrs,λ x=>by rw[hrm,Qm],hrl,s1⟩
end Go.Proofs.YtjibcckpehdbhaaGreatDoor
namespace Go.Px.Dg
def zc (low:List Nat):Nat:=low.countP λ d=>d == 0
theorem zc_le (low:List Nat):zc low<=low.length:=List.countP_le_length
theorem zc_set {low:List Nat}{t d:Nat}(ht:low[t]?=some 0)(hd:d≠0):zc (low.set t d)+1=zc low:=by
 unfold zc
 induction low generalizing t with
 | nil=>simp at ht
 | cons a low ih=>
  cases t with
  | zero=>
   simp at ht;subst ht;simp[hd]
  | succ t=>
   have:=ih (t:=t) (by simpa using ht);simp only[Qa9,List.countP_cons];omega
theorem zc_keep {low:List Nat}{t d d':Nat}(ht:low[t]?=some d)(hd:d≠0)(hd':d'≠0):zc (low.set t d')=zc low:=by
 unfold zc
 induction low generalizing t with
 | nil=>simp at ht
 | cons a low ih=>
  cases t with
  | zero=>
   simp at ht;subst ht;simp[hd,hd']
  | succ t=>
   have:=ih (t:=t) (by simpa using ht);simp only[Qa9,List.countP_cons];omega
theorem nz_set {low:List Nat}{t d v:Nat}(h:low[v]?≠some 0)(hd:d≠0):(low.set t d)[v]?≠some 0:=by
 rw[Qaq];split
 ·split
  ·intro e;injection e with e;exact hd e
  ·intro e;cases e
 ·exact h
theorem nz_setAll {g:List Nat}{d v:Nat}(hd:d≠0):∀{low:List Nat},low[v]?≠some 0->(setAll low g d)[v]?≠some 0:=by
 induction g with
 | nil=>intro low h;exact h
 | cons u g ih=>intro low h;exact ih (nz_set h hd)
theorem zc_setAll {g:List Nat}{d:Nat}(hd:d≠0):∀{low:List Nat},(∀v∈g,∃x,low[v]?=some x/\x≠0)->zc (setAll low g d)=zc low:=by
 induction g with
 | nil=>intro low _;rfl
 | cons v g ih=>
  intro low h
  show zc (setAll (low.set v d) g d)=zc low
  obtain ⟨x,hx,hx0⟩:=h v (by simp);rw[ih λ u hu=>?_,zc_keep hx hx0 hd];obtain ⟨y,hy,hy0⟩:=h u (by simp[hu]);by_cases e:v=u
  ·subst e;exact ⟨d,by rw[Qn (Qa.1 hy).1],hd⟩
  ·exact ⟨y,by rw[Qs e];exact hy,hy0⟩
section
variable {E:List (List Nat)} {s:TS} {pos:List Nat}
theorem TI.work_len (h:TI E s pos):s.work.length<=E.length:=by
 have hp:=h.plen;have hb:∀j,j<pos.length->∃p,pos[j]?=some p/\p<s.opn.length:=λ j hj=>by
  have hw:j<s.work.length:=by omega
  have h1:s.work[j]?=some s.work[j]:=Qb hw;have h2:pos[j]?=some pos[j]:=Qb hj;have:=h.wrk j s.work[j].1 s.work[j].2 pos[j] h1 h2;exact ⟨pos[j],h2,(Qa.1 this).1⟩
 have h1:pos.length<=s.opn.length:=nodup_lt_len (h.inc.imp λ h=>by omega) λ x hx=>by
  obtain ⟨j,hj⟩:=Qo.1 hx;obtain ⟨p,h2,h3⟩:=hb j (Qa.1 hj).1;rw[hj]at h2;injection h2 with h2;omega
 have:=h.opn_len;omega
structure DgS (E:List (List Nat))(s:TS)(pos:List Nat)(f:Int->Int)(cnt:Nat)(D P:Nat->Prop):Prop where
 ti:TI E s pos
 at_:∀(i v:Nat),s.opn[i]?=some v->f (v:Int)=(i:Int)+1
 cz:cnt+zc s.low<=E.length
 dn:∀v:Nat,s.low[v]?=some (E.length+1)↔D v
 nz:∀v:Nat,P v->s.low[v]?≠some 0
end
end Go.Px.Dg
namespace Go.Proofs.YtjibcckpehdbhaaGreatDoor
open Go.Px Go.Px.Scan Go.Px.Cn Go.RowKit
attribute [-go_sem] Builtin.append_ Zd.b6 Zd.b22 Zd.b23 Zd.b20_1 Zd.b20 Zd.b27 Zd.b19 Zd.b18 Zd.b17_1 Zd.b17 Zd.b30_1 Zd.b30_2 Zd.b30_3 Zd.b15 Zd.b13 Zd.b10_1 Zd.b10 Zd.b8
def toI (E:List (List Nat)):List (List Int):=E.map λ l=>l.map λ t:Nat=>(t:Int)
theorem ZZ14 {E:List (List Nat)}{n:Nat}{l:List Nat}(h:E[n]?=some l):(toI E)[n]?=some (l.map λ t:Nat=>(t:Int)):=by unfold toI;rw[Qh,h];rfl
def entV (ov lv wv:Nat):Value := .func (.func Zc4.id) #[] #[.pointer (some ⟨ov,0,none⟩),.pointer (some ⟨lv,0,none⟩),.pointer (some ⟨wv,0,none⟩)]
section
variable {W:World} {E:List (List Nat)} {ov lv wv lb am:Nat} {x0 x1:Value} {M:List Ch}
def wkL (ov lv wv lb n am:Nat)(oa:Option Addr)(oc:Nat)(wa:Option Addr)(wc:Nat)(s:Dg.TS)(f:Int->Int)(cnt:Nat)(M:List Ch):List Ch :=
 eL ov lv wv lb n oa oc wa wc s++(mapC Tryz.prog kInt 3 3 (.map (some am)) cnt f::M)
theorem Zum {w:World}{oa:Option Addr}{oc wb wc:Nat}{s:Dg.TS}{pos:List Nat}{f:Int->Int}{cnt n k:Nat}{l:List Nat}{w0:List (Nat×Nat)}{D P:Nat->Prop}{R:EP}{C3:VP}{C12:World->Prop}
  (hrows:∀w',Chg noB W w'->Zeo w' x0 (toI E)) (hE:E.length<=40000)
  (st:St noB W w (wkL ov lv wv lb E.length am oa oc (some ⟨wb,0,none⟩) wc s f cnt M)) (hS:Dg.DgS E s pos f cnt D P) (hw:s.work=w0++[(n,k)]) (hl:E[n]?=some l) (hll:l.length<=100000)
  (hin:∀w' oa' oc' wa' wc' s' pos' f' cnt',Dg.DgS E s' pos' f' cnt' D P->s'.work≠[]->2*Dg.zc s'.low+s'.work.length<2*Dg.zc s.low+s.work.length->St noB W w' (wkL ov lv wv lb E.length am oa' oc' wa' wc' s' f' cnt' M)->C12 w')
  (hout:∀w' s' pos' k',Dg.DgS E s' pos' f cnt D P->s'.work=w0++[(n,k')]->l.length<=k'->Dg.zc s'.low=Dg.zc s.low->St noB W w' (wkL ov lv wv lb E.length am oa oc (some ⟨wb,0,none⟩) wc s' f cnt M)->Zd.b17 R C3 C12 x1 (.pointer (some ⟨lv,0,none⟩)) (.int .i64 ((E.length:Int)+1)) (.pointer (some ⟨ov,0,none⟩)) (.pointer (some ⟨wv,0,none⟩)) (.map (some am)) (.pointer (some ⟨wb,w0.length*2,none⟩)) w') :
  Zd.l29 R C3 C12 x0 x1 (.pointer (some ⟨lv,0,none⟩)) (.int .i64 ((E.length:Int)+1)) (.pointer (some ⟨ov,0,none⟩)) (.pointer (some ⟨wv,0,none⟩)) (entV ov lv wv) (.map (some am)) (.pointer (some ⟨wb,w0.length*2,none⟩)) w:=by
 obtain ⟨K,hK⟩:∃K:World->Nat->Prop,K=λ w' m=>∃s' pos' k',Dg.DgS E s' pos' f cnt D P/\s'.work=w0++[(n,k')]/\Dg.zc s'.low=Dg.zc s.low/\m=l.length-k'/\St noB W w' (wkL ov lv wv lb E.length am oa oc (some ⟨wb,0,none⟩) wc s' f cnt M):=⟨_,rfl⟩;refine Zd.l29_intro _ _ _ _ _ _ _ _ _ _ _ _ _ (λ w'=>∃m,K w' m) (λ w'=>muOf K w') ⟨l.length-k,by rw[hK];exact ⟨s,pos,k,hS,hw,rfl,rfl,st⟩⟩ ?_;intro w1 hJ C hC;have hJm:=Zfy hJ;obtain ⟨m1,hm1⟩:∃m,muOf K w1=m:=⟨_,rfl⟩;rw[hm1]at hJm hC;have hCK:∀w4 m,K w4 m->m<m1->C w4:=λ w4 m h1 h2=>hC w4 ⟨m,h1⟩ (Qbd (Zfw h1) h2);subst hK;obtain ⟨s1,pos1,k1,hS1,hw1,hz1,hm2,st1⟩:=hJm;have hfin:∀w4 s' pos' k',Dg.DgS E s' pos' f cnt D P->s'.work=w0++[(n,k')]->Dg.zc s'.low=Dg.zc s.low->k1<k'->k1<l.length->St noB W w4 (wkL ov lv wv lb E.length am oa oc (some ⟨wb,0,none⟩) wc s' f cnt M)->C w4:=λ w4 s' pos' k' h1 h2 h3 h4 h5 h6=>
  hCK w4 _ ⟨s',pos',k',h1,h2,h3,rfl,h6⟩ (by rw[hm2];omega)
 clear hC hJ hm1 hm2 hCK;obtain ⟨A,c,rfl,hR⟩:=hrows w1 st1.chg;obtain ⟨b,o,a,acc,rfl,hb,hca,hra⟩:=hR n _ (ZZ14 hl);rw[Qp]at hca hra;have hnE:=(Qa.1 hl).1;have hEl:(toI E).length=E.length:=by unfold toI;simp
 have hwl:s1.work.length=w0.length+1:=by rw[hw1];simp
 have hwf:s1.work.flatMap wkV=w0.flatMap wkV++[.int .i64 (n:Nat),.int .i64 (k1:Nat)]:=by rw[hw1];simp[wkV]
 have hw0l:(w0.flatMap wkV).length=w0.length*2:=Zdv w0 λ _ _=>rfl;have hci:=(st1.rowAt 5 rfl (j:=w0.length*2) (by rw[hwf,Qq,hw0l];show _<_+2;omega));have hci2:=(st1.rowAt 5 rfl (j:=w0.length*2+1) (by rw[hwf,Qq,hw0l];show _<_+2;omega));obtain ⟨gw,egw,q1,q2⟩:=hci;obtain ⟨gw2,egw2,q3,q4⟩:=hci2;injection egw with egw;injection egw with egw;subst egw;injection egw2 with egw2;injection egw2 with egw2;subst egw2;have q1:w1.cell? ⟨wb,w0.length*2,none⟩=some (.int .i64 (n:Nat)):=by
  rw[q1];simp only[hwf];rw[List.getElem_append_right (by omega)];simp[hw0l]
 have q3:w1.cell? ⟨wb,w0.length*2+1,none⟩=some (.int .i64 (k1:Nat)):=by
  rw[q3];simp only[hwf];rw[List.getElem_append_right (by omega)];simp[hw0l]
 have hwbl:wb<w1.heap.size:=World.block_lt_of_cell? _ _ q1;simp -dsimp[go_sem,q1,q3,hwbl,hEl,hnE,hca,hb];have hk1b:∀j∈l,j<E.length:=hS.ti.edge n l hl;refine Za (λ p1=>?_) (λ p1=>?_)<;>simp at p1
 ·obtain ⟨t,ht⟩:∃t,l[k1]=t:=⟨_,rfl⟩;have htm:l[k1]?=some t:=by rw[Qb p1,ht]
  have htl:=hk1b t (Qe htm);have wk:=wS k1 (by omega);have hra0:∃ba oa',a=some ⟨ba,oa',none⟩/\ba<w1.heap.size/\w1.cell? ⟨ba,oa'+k1,none⟩=some (.int .i64 (t:Nat)):=by
   obtain ⟨A',c',e',hla,_⟩:=Zz hra;have hra':(Zq rInt).at1 w1 w1.heap.size (.slice a l.length acc) (l.map λ t:Nat=>(t:Int)):=hra;obtain ⟨ba,oa',e1,e2,e3,_⟩:=Go.Px.ints_at hra' (i:=k1) (by simpa using p1);refine ⟨ba,oa',e1,e2,?_⟩;rw[e3];simp[ht]
  obtain ⟨ba,oa',rfl,hbal,hct⟩:=hra0;have y1:=(st1.box 2 rfl).1;simp[Zw]at y1;have st2:=st1.setRow 5 rfl (w0.length*2+1) (.int .i64 ((k1:Int)+1));have q5:w1.cell? ⟨wb,w0.length*2+1,none⟩=some (.int .i64 (k1:Nat)):=q3;have hS2:=hS1;have hopl:=hS1.ti.opn_len;have hwrl:=hS1.ti.work_len;have hrow2:(s1.work.flatMap wkV).set (w0.length*2+1) (.int .i64 ((k1:Int)+1))=(w0++[(n,k1+1)]).flatMap wkV:=by
   rw[hwf,Qac _ _ (by omega),hw0l];simp[wkV]
  rw[hrow2]at st2;unfold Zd.b30_3;simp -dsimp[go_sem,q1,q3,q4,hwbl,hEl,hnE,hca,hb,p1,hct,hbal,wk];generalize hw2:w1.setCell ⟨wb,w0.length*2+1,none⟩ (.int .i64 ((k1:Int)+1))=w2 at st2 |-;have st2:St noB W w2 (wkL ov lv wv lb E.length am oa oc (some ⟨wb,0,none⟩) wc ⟨s1.low,s1.opn,w0++[(n,k1+1)]⟩ f cnt M):=by
   have e:(w0++[(n,k1+1)]).length=s1.work.length:=by rw[hwl];simp
   unfold wkL eL;simp only;rw[e];exact st2
  have hlt:t<s1.low.length:=by rw[hS1.ti.len];exact htl
  obtain ⟨gl,el,hcl,hfl⟩:=st2.rowAt 3 rfl (j:=t) (by rw[Zdy];exact hlt);injection el with el;injection el with el;subst el;obtain ⟨dt,hdt⟩:∃d,s1.low[t]?=some d:=⟨_,Qb hlt⟩;have hcl:w2.cell? ⟨lb,t,none⟩=some (.int .i64 (dt:Nat)):=by
   rw[hcl];unfold nats;rw[Q8];have:=(Qa.1 hdt).2;simp only[this]
  simp -dsimp[go_sem,y1,htl,hcl];have st3:=st2.old (Chg.refl noB w2).drew.drew;generalize w2.drew.drew=w3 at st3 |-;clear st2 hcl hfl q1 q2 q3 q4 q5 hwbl hca hbal hct hb y1 hra;refine Za (λ p2=>?_) (λ p2=>?_)<;>simp at p2
  ·have h0:dt=0:=by omega
   subst h0;have y3:=(st3.box 0 rfl).1;simp[Zw]at y3;have wo:IntKind.i64.wrap ((s1.opn.length:Int)+1)=(s1.opn.length:Int)+1:=IntWalk.i64_in _ (by omega);obtain ⟨cn,hcn1,hcn2,hcn3⟩:∃m,(f (t:Int)=0->m=cnt+1)/\(f (t:Int)≠0->m=cnt)/\m<=cnt+1:=by
    by_cases h:f (t:Int)=0
    ·exact ⟨cnt+1,λ _=>rfl,λ h2=>absurd h h2,Ql _⟩
    ·exact ⟨cnt,λ h2=>absurd h2 h,λ _=>rfl,by omega⟩
   have hcz:=hS1.cz;obtain ⟨w4,hrun,st4⟩:=st3.mapPut mInt 6 (b:=am) (n:=cnt) (f:=f) rfl (t:Int) (by show Zdf _;exact ⟨by omega,by omega⟩) (by unfold maxLen;omega) (x:=(s1.opn.length:Int)+1) ⟨by omega,by omega⟩ (by omega) cn (λ c=>if c=(t:Int) then (s1.opn.length:Int)+1 else f c) hcn1 hcn2 (if_pos rfl) (λ c hc=>if_neg hc);have hrun:(Instr.mapUpdate 269 (.map (some am)) (.int .i64 (t:Int)) (.int .i64 ((s1.opn.length:Int)+1))).run Tryz.prog w3 = .ok () w4:=hrun;unfold Zd.b30_1;simp -dsimp[go_sem,y3,wo,hrun];have st4:St noB W w4 (eL ov lv wv lb E.length oa oc (some ⟨wb,0,none⟩) wc ⟨s1.low,s1.opn,w0++[(n,k1+1)]⟩++(mapC Tryz.prog kInt 3 3 (.map (some am)) cn (λ c=>if c=(t:Int) then (s1.opn.length:Int)+1 else f c)::M)):=st4;unfold entV;refine Zdx (Zqd st4 htl hS1.ti.len (by omega) (by show s1.opn.length<=_;omega) (by simp only;rw[Qq];simp;omega)) ?_;rintro _ w5 ⟨oa',oc',wa',wc',st5⟩;have hTI:=hS1.ti.enter hdt (Or.inr ⟨n,k1,l,hw1,rfl,hl,htm⟩);have hfr:=hS1.ti.fresh hdt;have hz:=Dg.zc_set hdt (d:=s1.opn.length+1) (by omega);refine hin w5 oa' oc' wa' wc' _ _ _ cn ⟨hTI,λ i v hv=>?_,?_,λ v=>?_,λ v hv=>Dg.nz_set (hS1.nz v hv) (by omega)⟩ (by simp) ?_ st5
   ·show (if (v:Int)=(t:Int) then (s1.opn.length:Int)+1 else f v)=_
    by_cases hi:i<s1.opn.length
    ·have hv:s1.opn[i]?=some v:=by
      have hv':(s1.opn++[t])[i]?=some v:=hv;rwa [Qf hi]at hv'
     have hne:v≠t:=λ e=>hfr (e ▸ Qe hv);rw[if_neg (by omega)];exact hS1.at_ i v hv
    ·have hv':(s1.opn++[t])[i]?=some v:=hv;have hil:=(Qa.1 hv').1;rw[Qq,Qby]at hil;have:i=s1.opn.length:=by omega
     subst this;rw[Qi (Ql _),Qam]at hv';injection hv' with hv';rw[if_pos (by rw[<-hv'])]
   ·show cn+Dg.zc (s1.low.set t (s1.opn.length+1))<=E.length
    omega
   ·have hol:=hTI.opn_len;simp only[Qq,Qby]at hol
    show (s1.low.set t (s1.opn.length+1))[v]?=_↔_
    by_cases e:t=v
    ·subst e;rw[Qn hlt];have h1:¬D t:=λ h=>by
      have:=(hS1.dn t).2 h;rw[hdt]at this;injection this with this;omega
     exact ⟨λ h=>by injection h with h;omega,λ h=>absurd h h1⟩
    ·rw[Qs e];exact hS1.dn v
   ·show 2*Dg.zc (s1.low.set t (s1.opn.length+1))+(w0++[(n,k1+1)]++[(t,0)]).length<_
    rw[hw];simp only[Qq,Qby];omega
  ·have hdt0:0<dt:=by omega
   obtain ⟨pp,p0,hpos,hp0,hpn,_⟩:=hS1.ti.top hw1;obtain ⟨dn,hdn,hn1,hn2⟩:=hS1.ti.on pp n hpn;have hTI:=hS1.ti.seen hw1 hl htm hdn hdt hdt0;have y3:=(st3.box 2 rfl).1;have yl3:=(st3.box 2 rfl).2.2;simp[Zw]at y3;have hwr:((w0++[(n,k1+1)]).flatMap wkV)[w0.length*2]?=some (.int .i64 (n:Nat)):=by
    rw[Qab,Qi (by omega),hw0l];simp[wkV]
   obtain ⟨gw,egw,q1,_⟩:=st3.rowAt 5 rfl (j:=w0.length*2) (Qa.1 hwr).1;injection egw with egw;injection egw with egw;subst egw;have q1:w3.cell? ⟨wb,w0.length*2,none⟩=some (.int .i64 (n:Nat)):=by rw[q1];exact congrArg some (Qa.1 hwr).2
   have hwbl:wb<w3.heap.size:=World.block_lt_of_cell? _ _ q1;have lowat:∀{v d:Nat},s1.low[v]?=some d->w3.cell? ⟨lb,v,none⟩=some (.int .i64 (d:Nat))/\w3.frozen? ⟨lb,v,none⟩=false:=λ {v d} hv=>by
    have hvl:=(Qa.1 hv).1;obtain ⟨gl,el,hc,hf⟩:=st3.rowAt 3 rfl (j:=v) (by rw[Zdy];exact hvl);injection el with el;injection el with el;subst el;refine ⟨?_,hf⟩;rw[hc];unfold nats;rw[Q8];have:=(Qa.1 hv).2;simp only[this]
   obtain ⟨ln1,ln2⟩:=lowat hdn;obtain ⟨lt1,lt2⟩:=lowat hdt;have hlbl:lb<w3.heap.size:=World.block_lt_of_cell? _ _ ln1;have st4:=(st3.setRow 3 rfl n (.int .i64 (min (dn:Int) (dt:Int)))).old ((Chg.refl noB _).drew);unfold Zd.b30_2;simp -dsimp[go_sem,y3,yl3,q1,hwbl,ln1,ln2,lt1,hnE,htl,hlbl];have emin:(min (dn:Int) (dt:Int))=((min dn dt:Nat):Int):=by omega
   have hz:=Dg.zc_keep hdn (d':=min dn dt) (by omega) (by omega);refine hfin _ ⟨s1.low.set n (min dn dt),s1.opn,w0++[(n,k1+1)]⟩ pos1 (k1+1) ⟨hTI,hS1.at_,?_,λ v=>?_,λ v hv=>Dg.nz_set (hS1.nz v hv) (by omega)⟩ rfl (by show Dg.zc (s1.low.set n (min dn dt))=_;omega) (by omega) p1 ?_
   ·have:=hS1.cz
    show cnt+Dg.zc (s1.low.set n (min dn dt))<=E.length
    omega
   ·have hpl:=(Qa.1 hpn).1
    show (s1.low.set n (min dn dt))[v]?=_↔_
    by_cases e:n=v
    ·subst e;rw[Qn (Qa.1 hdn).1];have h1:¬D n:=λ h=>by
      have:=(hS1.dn n).2 h;rw[hdn]at this;injection this with this;omega
     exact ⟨λ h=>by injection h with h;omega,λ h=>absurd h h1⟩
    ·rw[Qs e];exact hS1.dn v
   ·rw[emin]at st4 |-;unfold wkL eL;rw[Zjt];exact st4
 ·have hS3:=hS1;exact hout _ s1 pos1 k1 hS1 hw1 p1 hz1 (st1.old (Chg.refl noB w1).drew)
end
section
variable {W:World} {E:List (List Nat)} {ov lv wv lb am:Nat} {x1:Value} {M:List Ch}
theorem Zmz {G:Nat->Prop}{W w:World}{L:List Ch}(st:St G W w L)(k:Nat){lb n c:Nat}{low:List Nat}(hk:L[k]?=some (rowC 3 1 (some ⟨lb,0,none⟩) n c (nats low))){v d:Nat}(hv:low[v]?=some d):w.cell? ⟨lb,v,none⟩=some (.int .i64 (d:Nat))/\w.frozen? ⟨lb,v,none⟩=false/\lb<w.heap.size:=by
 have hvl:=(Qa.1 hv).1;obtain ⟨gl,el,hc,hf⟩:=st.rowAt k hk (j:=v) (by rw[Zdy];exact hvl);injection el with el;injection el with el;subst el;have hc':w.cell? ⟨lb,v,none⟩=some (.int .i64 (d:Nat)):=by
  rw[hc];unfold nats;rw[Q8];have:=(Qa.1 hv).2;simp only[this]
 exact ⟨hc',hf,World.block_lt_of_cell? _ _ hc'⟩
theorem Zsb {w:World}{oa:Option Addr}{oc:Nat}{wa:Option Addr}{wc:Nat}{opn:List Nat}{work:List (Nat×Nat)}{low0:List Nat}{f:Int->Int}{cnt:Nat}{g:List Nat}{ga:Option Addr}{gc:Nat}{R:EP}{C3:VP}{C12:World->Prop}(hE:E.length<=40000)(hlen:low0.length=E.length)(hg:∀v∈g,v<E.length)(hgl:g.length<=100000)
  (st:St noB W w (wkL ov lv wv lb E.length am oa oc wa wc ⟨low0,opn,work⟩ f cnt (M++[rowC 3 1 ga g.length gc (nats g)])))
  (hgo:∀w',St noB W w' (wkL ov lv wv lb E.length am oa oc wa wc ⟨Dg.setAll low0 g (E.length+1),opn,work⟩ f cnt (M++[rowC 3 1 ga g.length gc (nats g)]))->Zd.b22 R C3 C12 x1 (.slice ga g.length gc) w') :
  Zd.b23 R C3 C12 x1 (.pointer (some ⟨lv,0,none⟩)) (.int .i64 ((E.length:Int)+1)) (.slice ga g.length gc) w:=by
 unfold Zd.b23;simp -dsimp[go_sem];refine Zd.l25_intro _ _ _ _ _ _ _ _ _ _ _ (λ y w'=>∃k:Nat,y = .int .i64 k/\k<=g.length/\St noB W w' (wkL ov lv wv lb E.length am oa oc wa wc ⟨Dg.setAll low0 (g.take k) (E.length+1),opn,work⟩ f cnt (M++[rowC 3 1 ga g.length gc (nats g)]))) (λ y _=>g.length-iv y)
  ⟨0,rfl,Qy _,st⟩ ?_
 rintro _ w1 ⟨k,rfl,hk,st1⟩ C hC;simp -dsimp[go_sem];refine Za (λ p1=>?_) (λ p1=>?_)<;>simp at p1
 ·have wk:=wS k (by omega);obtain ⟨v,hv⟩:∃v,g[k]=v:=⟨_,rfl⟩;have hvm:g[k]?=some v:=by rw[Qb p1,hv]
  have hvE:=hg v (Qe hvm);have hgi:(wkL ov lv wv lb E.length am oa oc wa wc ⟨Dg.setAll low0 (g.take k) (E.length+1),opn,work⟩ f cnt (M++[rowC 3 1 ga g.length gc (nats g)]))[7+M.length]?=some (rowC 3 1 ga g.length gc (nats g)):=by
   unfold wkL eL;rw[show 7+M.length=6+(M.length+1) by omega];rw[Qi (by simp)];simp
  obtain ⟨gg,eg,hcg,_⟩:=st1.rowAt (7+M.length) hgi (j:=k) (by rw[Zdy];exact p1);subst eg;have hcg:w1.cell? ⟨gg,k,none⟩=some (.int .i64 (v:Nat)):=by
   rw[hcg];unfold nats;rw[Q8,hv]
  have y1:=(st1.box 2 rfl).1;simp[Zw]at y1;have hl0:(Dg.setAll low0 (g.take k) (E.length+1)).length=E.length:=by rw[Dg.setAll_len,hlen]
  obtain ⟨l1,l2,l3⟩:=Zmz st1 3 rfl (v:=v) (Qb (by show v<(Dg.setAll low0 (g.take k) (E.length+1)).length;omega));have st2:=st1.setRow 3 rfl v (.int .i64 ((E.length+1:Nat):Int));have e1:((E.length+1:Nat):Int)=(E.length:Int)+1:=by omega
  unfold Zd.b26_1;simp -dsimp[go_sem,p1,hcg,y1,hvE,l1,l2,wk];refine hC _ _ ⟨k+1,by simp,by omega,?_⟩ (by simp[iv];omega);rw[Qd p1,hv];have e2:Dg.setAll low0 (g.take k++[v]) (E.length+1)=(Dg.setAll low0 (g.take k) (E.length+1)).set v (E.length+1):=by unfold Dg.setAll;rw[Qdn];rfl
  rw[e2];unfold wkL eL at st2 |-;rw[Zjt];rw[<-e1];exact st2
 ·have:k=g.length:=by omega
  subst this;rw[Qm]at st1;exact hgo w1 st1
theorem Zv5 (l:List Nat):nats l=(l.map λ y:Nat=>(y:Int)).flatMap λ y=>[Value.int .i64 y]:=by
 unfold nats;rw[Qdp]
 induction l with
 | nil=>rfl
 | cons a l ih=>simp;exact ih
theorem Zur (l:List Nat):ints (l.map λ y:Nat=>(y:Int))=nats l:=by unfold ints nats;rw[Qds];rfl
theorem Zzz {G:Nat->Prop}{W w:World}{L:List Ch}(st:St G W w L)(k:Nat){a:Option Addr}{n c:Nat}{l:List Nat}(hk:L[k]?=some (rowC 3 1 a n c (nats l)))(hl:∀x∈l,x<1000000000):(Zq rInt).at1 w w.heap.size (.slice a l.length c) (l.map λ y:Nat=>(y:Int))/\n=l.length:=by
 obtain ⟨F,ho,_⟩:=st.get hk;obtain ⟨h1,h2,h3⟩:=Zee ho;rw[Zdy]at h1;have hn:n=l.length:=by omega
 subst hn;rw[Zv5]at ho;refine ⟨?_,rfl⟩;have:=Zki (r:=rInt) (enc:=λ y:Int=>[Value.int .i64 y]) (c':=c) ho (by simp) (λ _ _=>rfl) (by decide) (λ B y hy=>⟨rfl,?_⟩) h2 h3
 ·exact this
 ·obtain ⟨m,hm,rfl⟩:=Qr.1 hy;have:=hl m hm;exact ⟨by omega,by omega⟩
end
section
variable {W:World} {E:List (List Nat)} {ov lv wv lb am:Nat} {α:Type} {solL:α->List Ch} {I:α->(Nat->Prop)->Prop} {yfid:FuncId} {first cap:Array Value}
def Zto (W:World)(E:List (List Nat))(solL:α->List Ch)(I:α->(Nat->Prop)->Prop)(yfid:FuncId)(first cap:Array Value):Prop :=
 ∀(w:World) (L0:List Ch) (σ:α) (D:Nat->Prop) (low g:List Nat) (a:Option Addr) (c:Nat),I σ D->(∀v:Nat,low[v]?=some (E.length+1)↔D v)->Dg.Grp E low g->St noB W w ((solL σ++[rowC 3 1 a g.length c (nats g)])++L0) ->
  Ct Tryz.prog yfid (first.toList++[Value.slice a g.length c]++cap.toList).toArray w λ _ w'=>∃σ',I σ' (λ v=>D v\/v∈g)/\St noB W w' (solL σ'++L0)
theorem ZZ171 {w:World}{oa:Option Addr}{oc:Nat}{wa:Option Addr}{wc:Nat}{opn low:List Nat}{w0:List (Nat×Nat)}{f:Int->Int}{cnt:Nat}{σ:α}{D:Nat->Prop}{n p dn:Nat}{R:EP}{C3:VP}{C12:World->Prop}(hy:Zto W E solL I yfid first cap)(hE:E.length<=40000)
  (st:St noB W w (wkL ov lv wv lb E.length am oa oc wa wc ⟨low,opn,w0⟩ f cnt [Ch.all (solL σ)])) (hlen:low.length=E.length) (hnE:n<E.length) (hol:opn.length<=E.length) (hon:∀v∈opn,v<E.length) (hf:f (n:Int)=(p:Int)+1) (hp:opn[p]?=some n) (hn:low[n]?=some dn) (hI:I σ D) (hD:∀v:Nat,low[v]?=some (E.length+1)↔D v)
  (hne:dn≠p+1->∀w',St noB W w' (wkL ov lv wv lb E.length am oa oc wa wc ⟨low,opn,w0⟩ f cnt [Ch.all (solL σ)])->C12 w')
  (hgrp:dn=p+1->Dg.Grp E low (opn.drop p))
  (heq:dn=p+1->∀w' σ',I σ' (λ v=>D v\/v∈opn.drop p)->St noB W w' (wkL ov lv wv lb E.length am oa oc wa wc ⟨Dg.setAll low (opn.drop p) (E.length+1),opn.take p,w0⟩ f cnt [Ch.all (solL σ')])->C12 w') :
  Zd.b18 R C3 C12 (.func (.func yfid) first cap) (.pointer (some ⟨lv,0,none⟩)) (.int .i64 ((E.length:Int)+1)) (.pointer (some ⟨ov,0,none⟩)) (.map (some am)) (.int .i64 n) w:=by
 have y2:=(st.box 2 rfl).1;have yl2:=(st.box 2 rfl).2.2;simp[Zw]at y2;obtain ⟨l1,l2,l3⟩:=Zmz st 3 rfl hn;have hlk:∀w',Chg noB w w'->(Instr.lookup 269 (.map (some am)) (.int .i64 (n:Int)) false).run Tryz.prog w' = .ok (.int .i64 ((p:Int)+1)) w':=λ w' hc=>by
  have:(Instr.lookup 269 (.map (some am)) (.int .i64 (n:Int)) false).run Tryz.prog w'=_:=(st.old hc).mapGet mInt 6 (f:=f) rfl (n:Int) (by show Zdf _;exact ⟨by omega,by omega⟩);rw[this,hf]
 have hlk1:=hlk _ (Chg.refl noB w).drew;have hpl:=(Qa.1 hp).1;unfold Zd.b18;simp -dsimp[go_sem,y2,yl2,hnE,l1,l3,hlk1];have st1:=st.old (Chg.refl noB w).drew;have hlk2:∀w',Chg noB w.drew w'->(Instr.lookup 269 (.map (some am)) (.int .i64 (n:Int)) false).run Tryz.prog w' = .ok (.int .i64 ((p:Int)+1)) w':=λ w' hc=>hlk w' ((Chg.refl noB w).drew.trans hc);generalize w.drew=w1 at st1 hlk2 |-;clear l1 l2 l3 y2 yl2 hlk hlk1;unfold Zd.b19;refine Za (λ p1=>?_) (λ p1=>?_)<;>simp at p1
 ·have hdp:dn=p+1:=by omega
  have hg:=hgrp hdp;have y1:=(st1.box 0 rfl).1;simp[Zw]at y1;have wp:IntKind.i64.wrap ((p:Int)+1-1)=(p:Int):=by rw[IntWalk.i64_in _ (by omega)];omega
  have wp':IntKind.i64.wrap (p:Int)=(p:Int):=IntWalk.i64_in _ (by omega);obtain ⟨g,eg,_⟩:=st1.rowAt 1 rfl (j:=p) (by rw[Zdy];exact hpl);subst eg;obtain ⟨hrd,_⟩:=Zzz st1 1 rfl λ x hx=>by have:=hon x hx;omega
  obtain ⟨_,hnc,_⟩:=st1.rowSize 1 rfl;have hnc:opn.length<=oc:=hnc;have h1:=hlk2 w1 (Chg.refl _ _);have hpc:(p:Int)<=(opn.length:Int):=by omega
  have hoc:¬oc=p:=by omega
  have hloc:(opn.length:Int)<=(oc:Int):=by omega
  have hd:=Zim (k:=p) (l:=opn.map λ y:Nat=>(y:Int)) (r:=rInt) (b:=g) (o:=0) (c:=oc) (by rw[Qp];exact hrd) (by rw[Qp];omega);rw[Qp,<-List.map_drop]at hd;unfold Zd.b20;simp -dsimp[go_sem,y1,h1,wp,wp',hpc,hoc,hloc];have hd':(Zq rInt).at1 w1 w1.heap.size (.slice (some ⟨g,p,none⟩) (opn.length-p) (oc-p)) ((opn.drop p).map λ y:Nat=>(y:Int)):=by simpa[rInt]using hd
  refine Zi (Zn3 st1 hd' (by rw[Qp,Q7];omega)) ?_;rintro _ w2 ⟨ga,gc,rfl,st2⟩;rw[Zur,Qp]at st2;rw[Qp];have y2:=(st2.box 0 rfl).1;have f2:=(st2.box 0 rfl).2.1;simp[Zw]at y2;have h2:(Instr.lookup 269 (.map (some am)) (.int .i64 (n:Int)) false).run Tryz.prog w2=_:=st2.mapGet mInt 6 (f:=f) rfl (n:Int) (by show Zdf _;exact ⟨by omega,by omega⟩);rw[hf]at h2;have hpoc:(p:Int)<=(oc:Int):=by omega
  obtain ⟨gg,hgg⟩:∃gg,opn.drop p=gg:=⟨_,rfl⟩;rw[hgg]at st2 hg heq |-;have st3:=st2.set 0 rfl 0 (.slice (some ⟨g,0,none⟩) p oc);unfold Zd.b20_1;simp -dsimp[go_sem,y2,f2,h2,wp,wp',hpoc];generalize w2.setCell ⟨ov,0,none⟩ (.slice (some ⟨g,0,none⟩) p oc)=w3 at st3 |-;have htl:(opn.take p).length=p:=by rw[Q6];omega
  have hgl:gg.length=opn.length-p:=by rw[<-hgg,Q7]
  have hnats:nats opn=nats (opn.take p)++nats gg:=by
   rw[<-hgg];unfold nats;rw[<-Qu,Qag]
  have st4:=St.popRows 1 (opn.length-p) p (xs:=nats (opn.take p)) (last:=nats gg) (e:=3) (size:=1) (a:=some ⟨g,0,none⟩) (c:=oc) st3 (by
   rw[<-hnats,show p+(opn.length-p)=opn.length by omega];rfl) (by rw[Zdy,htl,Qb7]) (by rw[Zdy,hgl,Qb7])
  have st4:St noB W w3 (wkL ov lv wv lb E.length am (some ⟨g,0,none⟩) oc wa wc ⟨low,opn.take p,w0⟩ f cnt ([Ch.all (solL σ)]++[rowC 3 1 ga gg.length gc (nats gg)])):=by
   unfold wkL eL;simp only;rw[htl];exact st4
  refine Zsb hE hlen (λ v hv=>hg.lt v hv) (by omega) st4 λ w4 st5=>?_;have st6:St noB W w4 ([boxC ov 24 [.slice (some ⟨g,0,none⟩) (opn.take p).length oc],rowC 3 1 (some ⟨g,0,none⟩) (opn.take p).length oc (nats (opn.take p)),boxC lv 24 [.slice (some ⟨lb,0,none⟩) E.length E.length],rowC 3 1 (some ⟨lb,0,none⟩) E.length E.length (nats (Dg.setAll low gg (E.length+1))),boxC wv 401 [.slice wa w0.length wc],rowC 403 2 wa w0.length wc (w0.flatMap wkV),mapC Tryz.prog kInt 3 3 (.map (some am)) cnt f]++[Ch.all (solL σ++[rowC 3 1 ga gg.length gc (nats gg)])]):=(st5.into 8 7 rfl rfl (by decide)).take 8;have st7:=st6.flat.swap;have hDD:∀v:Nat,(Dg.setAll low gg (E.length+1))[v]?=some (E.length+1)↔D v\/v∈gg:=λ v=>by
   by_cases hv:v∈gg
   ·rw[Dg.setAll_in hv (by rw[hlen];exact hg.lt v hv)];exact ⟨λ _=>Or.inr hv,λ _=>rfl⟩
   ·rw[Dg.setAll_out hv,hD];exact ⟨Or.inl,λ h=>h.elim id λ h=>absurd h hv⟩
  unfold Zd.b22;refine Zdx (hy w4 _ σ D low gg ga gc hI hD hg st7) ?_;rintro _ w5 ⟨σ',hI',s'⟩;exact heq hdp w5 σ' hI' s'.swap.unflat
 ·have hdp:dn≠p+1:=by omega
  unfold Zd.b27;exact hne hdp w1 st1
end
end Go.Proofs.YtjibcckpehdbhaaGreatDoor
