/-
  Texts of this claim: Cq2, Dg1, Mg1, Tn5, Tn6, Tn7.
-/
import Derived.Test.YtjibcckpehdbhaaGreatDoorY02
import Derived.Test.YtjibcckpehdbhaaGreatDoorY19
import Derived.Test.YtjibcckpehdbhaaGreatDoorY10
import Derived.Test.YtjibcckpehdbhaaGreatDoorY13
import Derived.Test.YtjibcckpehdbhaaGreatDoorY07
import Derived.Test.YtjibcckpehdbhaaGreatDoorY05
import Derived.Test.YtjibcckpehdbhaaGreatDoorY14
import Derived.Test.YtjibcckpehdbhaaGreatDoorY17
set_option maxHeartbeats 1000000
set_option linter.unusedSimpArgs false
set_option linter.unusedVariables false
set_option maxRecDepth 100000
namespace Go.Px.Dg
inductive Rc (E:List (List Nat)):Nat->Nat->Prop
 | refl (v:Nat):Rc E v v
 | step {u v w:Nat} {l:List Nat}:Rc E u v->E[v]?=some l->w∈l->Rc E u w
theorem Rc.trans {E:List (List Nat)}{u v w:Nat}(h1:Rc E u v)(h2:Rc E v w):Rc E u w:=by
 induction h2 with
 | refl=>exact h1
 | step _ a b ih=>exact .step ih a b
theorem Rc.one {E:List (List Nat)}{u v:Nat}{l:List Nat}(h:E[u]?=some l)(hv:v∈l):Rc E u v := .step (.refl u) h hv
structure TS where
 low:List Nat
 opn:List Nat
 work:List (Nat×Nat)
structure TI (E:List (List Nat))(s:TS)(pos:List Nat):Prop where
 len:s.low.length=E.length
 edge:∀(v:Nat) l,E[v]?=some l->∀t∈l,t<E.length
 on:∀(i v:Nat),s.opn[i]?=some v->∃d,s.low[v]?=some d/\1<=d/\d<=i+1
 nd:s.opn.Nodup
 off:∀(v d:Nat),s.low[v]?=some d->v∉s.opn->d=0\/d=E.length+1
 don:∀(v:Nat) l,s.low[v]?=some (E.length+1)->E[v]?=some l->∀t∈l,s.low[t]?=some (E.length+1)
 plen:pos.length=s.work.length
 wrk:∀(j:Nat) n k p,s.work[j]?=some (n,k)->pos[j]?=some p->s.opn[p]?=some n
 inc:pos.Pairwise (· < ·)
 root:s.opn≠[]->pos[0]?=some 0
 exp:∀(i v:Nat) l k t,s.opn[i]?=some v->E[v]?=some l->l[k]?=some t->(∀n,(v,n)∈s.work->k<n)->s.low[t]?=some (E.length+1)\/∃j d,s.opn[j]?=some t/\s.low[v]?=some d/\d<=j+1
 rch:∀(i v d:Nat),s.opn[i]?=some v->s.low[v]?=some d->∃u,s.opn[d-1]?=some u/\Rc E v u
 fin:∀(i v d:Nat),s.opn[i]?=some v->s.low[v]?=some d->(∀n,(v,n)∉s.work)->d<i+1
 near:∀(j p i w v a b:Nat),pos[j]?=some p->p<=i->(∀p',pos[j+1]?=some p'->i<p')->s.opn[p]?=some w->s.opn[i]?=some v->s.low[w]?=some a->s.low[v]?=some b->a<=b
 tree:∀(j p i w v:Nat),pos[j]?=some p->p<=i->s.opn[p]?=some w->s.opn[i]?=some v->Rc E w v
section
variable {E:List (List Nat)} {s:TS} {pos:List Nat}
theorem at_nd {α:Type}{l:List α}(h:l.Nodup){i j:Nat}{x:α}(hi:l[i]?=some x)(hj:l[j]?=some x):i=j:=by
 obtain ⟨h1,e1⟩:=Qa.1 hi;obtain ⟨h2,e2⟩:=Qa.1 hj;exact (List.getElem_inj h).1 (e1.trans e2.symm)
theorem TI.opn_lt (h:TI E s pos){i v:Nat}(hi:s.opn[i]?=some v):v<E.length:=by
 obtain ⟨d,hd,_⟩:=h.on i v hi;have:=(Qa.1 hd).1;rw[h.len]at this;exact this
theorem nodup_lt_len:∀{n:Nat} {l:List Nat},l.Nodup->(∀x∈l,x<n)->l.length<=n:=by
 intro n
 induction n with
 | zero=>intro l _ h;cases l with
  | nil=>exact Ql 0
  | cons a l=>have:=h a (by simp);omega
 | succ n ih=>
  intro l hn h;have h1:=ih (l:=l.filter (·≠n)) (hn.filter _) (λ x hx=>by
   rw[Qz]at hx
   have:=h x hx.1
   have h3:x≠n:=by simpa using hx.2
   omega)
  have h2:l.length<=(l.filter (·≠n)).length+1:=by
   clear ih h1 h
   induction l with
   | nil=>simp
   | cons a l ih=>
    rw[Qcg]at hn;by_cases e:a=n
    ·subst e;have:l.filter (·≠a)=l:=Qbi.2 λ x hx=>by
      have:x≠a:=λ e=>hn.1 (e ▸ hx);simpa using this
     rw[Qat (by simp),this];simp
    ·rw[Qaz (by simpa using e)];have:=ih hn.2;simp only[Qb1];omega
  omega
theorem TI.opn_len (h:TI E s pos):s.opn.length<=E.length:=nodup_lt_len h.nd λ x hx=>by
 obtain ⟨i,hi⟩:=Qo.1 hx;exact h.opn_lt hi
theorem TI.fresh (h:TI E s pos){t:Nat}(ht:s.low[t]?=some 0):t∉s.opn:=λ hm=>by
 obtain ⟨i,hi⟩:=Qo.1 hm;obtain ⟨d,hd,h1,_⟩:=h.on i t hi;rw[ht]at hd;injection hd with hd;omega
theorem TI.top (h:TI E s pos){w0:List (Nat×Nat)}{n k:Nat}(hw:s.work=w0++[(n,k)]):∃p p0,pos=p0++[p]/\p0.length=w0.length/\s.opn[p]?=some n/\(∀q∈p0,q<p):=by
 have hl:=h.plen;rw[hw,Qq]at hl;have hne:pos≠[]:=by rintro rfl;simp at hl
 have e:=(Qba hne).symm;refine ⟨_,_,e,by simp[hl],?_,?_⟩
 ·refine h.wrk w0.length n k _ (by rw[hw];simp) ?_;obtain ⟨a,b,hab⟩:∃a b,pos=a++[b]/\b=pos.getLast hne:=⟨_,_,e,rfl⟩;have ha:a.length=w0.length:=by rw[hab.1]at hl;simpa using hl
  rw[<-hab.2,hab.1,<-ha];simp
 ·have:=h.inc;rw[e,Qao]at this;exact λ q hq=>this.2.2 q hq _ (by simp)
theorem TI.work_nd (h:TI E s pos){j j':Nat}{n k k':Nat}(h1:s.work[j]?=some (n,k))(h2:s.work[j']?=some (n,k')):j=j':=by
 have l1:=(Qa.1 h1).1;have l2:=(Qa.1 h2).1;rw[<-h.plen]at l1 l2;have e1:=h.wrk j n k _ h1 (Qb l1);have e2:=h.wrk j' n k' _ h2 (Qb l2);have:=at_nd h.nd e1 e2;rcases Qdk j j' with hlt|rfl|hlt
 ·have:=Qt.1 h.inc j j' l1 l2 hlt;omega
 ·rfl
 ·have:=Qt.1 h.inc j' j l2 l1 hlt;omega
theorem TI.work_top (h:TI E s pos){w0:List (Nat×Nat)}{n k k':Nat}(hw:s.work=w0++[(n,k)])(hm:(n,k')∈s.work):k'=k:=by
 obtain ⟨j,hj⟩:=Qo.1 hm;have h2:s.work[w0.length]?=some (n,k):=by rw[hw];simp
 have:=h.work_nd hj h2;subst this;rw[h2]at hj;injection hj with hj;injection hj with _ hj;exact hj.symm
theorem TI.enter (h:TI E s pos){w0 w1:List (Nat×Nat)}{t:Nat}(ht:s.low[t]?=some 0)
  (hc:(s.work=[]/\w1=[]/\s.opn=[])\/∃n k l,s.work=w0++[(n,k)]/\w1=w0++[(n,k+1)]/\E[n]?=some l/\l[k]?=some t) :
  TI E ⟨s.low.set t (s.opn.length+1),s.opn++[t],w1++[(t,0)]⟩ (pos++[s.opn.length]):=by
 have hto:=h.fresh ht;have htl:=(Qa.1 ht).1;have htE:t<E.length:=by rw[<-h.len];exact htl
 have hll:s.opn.length<E.length:=by
  have:=nodup_lt_len (n:=E.length) (l:=t::s.opn) (by rw[Qcg];exact ⟨hto,h.nd⟩) (λ x hx=>by
   rcases Qaa.1 hx with rfl|hx
   ·exact htE
   ·obtain ⟨i,hi⟩:=Qo.1 hx
    exact h.opn_lt hi)
  rw[Qb1]at this;exact this
 have hlow:∀v,v≠t->(s.low.set t (s.opn.length+1))[v]?=s.low[v]?:=λ v hv=>Qs (Ne.symm hv);have hlt:(s.low.set t (s.opn.length+1))[t]?=some (s.opn.length+1):=by rw[Qn htl]
 have hopn:∀(i v:Nat),(s.opn++[t])[i]?=some v->(i<s.opn.length/\s.opn[i]?=some v/\v≠t)\/(i=s.opn.length/\v=t):=λ i v hi=>by
  rcases Qay i s.opn.length with h1|h1
  ·rw[Qf h1]at hi;exact Or.inl ⟨h1,hi,λ e=>hto (e ▸ Qe hi)⟩
  ·rw[Qi h1]at hi;have:=(Qa.1 hi).1;simp at this;have e:i=s.opn.length:=by omega
   subst e;simp at hi;exact Or.inr ⟨rfl,hi.symm⟩
 have hup:∀{i v:Nat},s.opn[i]?=some v->(s.opn++[t])[i]?=some v:=λ {i v} hi=>by
  rw[Qf (Qa.1 hi).1];exact hi
 have hnew:(s.opn++[t])[s.opn.length]?=some t:=by simp
 have hl1:w1.length=s.work.length:=by
  rcases hc with ⟨e1,e2,_⟩|⟨n,k,l,e1,e2,_⟩
  ·rw[e1,e2]
  ·rw[e1,e2];simp
 have hw1:∀(j n k:Nat),w1[j]?=some (n,k)->∃k0,s.work[j]?=some (n,k0)/\k0<=k:=λ j n k hj=>by
  rcases hc with ⟨e1,e2,_⟩|⟨n0,k0,l,e1,e2,_⟩
  ·rw[e2]at hj;simp at hj
  ·rw[e2]at hj;rcases Qay j w0.length with h1|h1
   ·rw[Qf h1]at hj;exact ⟨k,by rw[e1,Qf h1];exact hj,Ql _⟩
   ·have:=(Qa.1 hj).1;simp at this;have e:j=w0.length:=by omega
    subst e;simp at hj;exact ⟨k0,by rw[e1];simp[hj.1],by omega⟩
 have hposl:∀{p:Nat},p∈pos->p<s.opn.length:=λ {p} hp=>by
  obtain ⟨j,hj⟩:=Qo.1 hp;have hjl:=(Qa.1 hj).1;rw[h.plen]at hjl;have:=h.wrk j _ _ p (Qb hjl) hj;exact (Qa.1 this).1
 have hpos:∀(j p:Nat),(pos++[s.opn.length])[j]?=some p->(j<pos.length/\pos[j]?=some p/\p<s.opn.length)\/(j=pos.length/\p=s.opn.length):=λ j p hj=>by
  rcases Qay j pos.length with h1|h1
  ·rw[Qf h1]at hj;exact Or.inl ⟨h1,hj,hposl (Qe hj)⟩
  ·rw[Qi h1]at hj;have:=(Qa.1 hj).1;simp at this;have e:j=pos.length:=by omega
   subst e;simp at hj;exact Or.inr ⟨rfl,hj.symm⟩
 refine ⟨by simpa using h.len,h.edge,λ i v hi=>?_,?_,λ v d hd hv=>?_,λ v l hd hl x hx=>?_,by simp[h.plen,hl1],λ j n k p hj hp=>?_,?_,λ _=>?_,λ i v l k x hi hl hk hw=>?_,λ i v d hi hd=>?_,λ i v d hi hd hw=>?_,λ j p i w v a b hj hpi hn hw hv ha hb=>?_,λ j p i w v hj hpi hw hv=>?_⟩
 ·rcases hopn i v hi with ⟨h1,h2,h3⟩|⟨rfl,rfl⟩
  ·obtain ⟨d,hd,h4,h5⟩:=h.on i v h2;exact ⟨d,by rw[hlow v h3];exact hd,h4,h5⟩
  ·exact ⟨_,hlt,by omega,Ql _⟩
 ·simp only;rw[Qak];refine ⟨h.nd,by simp,λ a ha b hb=>?_⟩;simp at hb;subst hb;rintro rfl;exact hto ha
 ·have hvt:v≠t:=λ e=>hv (by simp[e]);simp only at hd hv;rw[hlow v hvt]at hd;exact h.off v d hd λ hm=>hv (by simp[hm])
 ·simp only at hd |-;have hvt:v≠t:=by rintro rfl;rw[hlt]at hd;injection hd with hd;omega
  rw[hlow v hvt]at hd;have:=h.don v l hd hl x hx;have hxt:x≠t:=by rintro rfl;rw[ht]at this;injection this with this;omega
  rw[hlow x hxt];exact this
 ·simp only at hj |-;rcases Qay j pos.length with h1|h1
  ·rw[Qf h1]at hp;rw[Qf (by rw[hl1,<-h.plen];exact h1)]at hj;obtain ⟨k0,hk0,_⟩:=hw1 j n k hj;exact hup (h.wrk j n k0 p hk0 hp)
  ·rcases hpos j p hp with ⟨h2,_⟩|⟨rfl,rfl⟩
   ·omega
   ·have:pos.length=w1.length:=by rw[hl1,h.plen]
    rw[this]at hj;simp at hj;rw[<-hj.1];exact hnew
 ·rw[Qao];refine ⟨h.inc,by simp,λ a ha b hb=>?_⟩;simp at hb;subst hb;exact hposl ha
 ·by_cases e:s.opn=[]
  ·have hp0:pos=[]:=by
    rcases hc with ⟨e1,_,_⟩|⟨n,k,l,e1,_⟩
    ·have:=h.plen;rw[e1]at this;exact Qal this
    ·exfalso
     obtain ⟨p,p0,_,_,h5,_⟩:=h.top e1;rw[e]at h5;simp at h5
   rw[hp0,e];rfl
  ·have:=h.root e;rw[Qf (Qa.1 this).1];exact this
 ·simp only at hi hw |-;rcases hopn i v hi with ⟨h1,h2,h3⟩|⟨rfl,rfl⟩
  ·by_cases hfin:∀n,(v,n)∈s.work->k<n
   ·rcases h.exp i v l k x h2 hl hk hfin with h4|⟨j,d,h4,h5,h6⟩
    ·left;have hxt:x≠t:=by rintro rfl;rw[ht]at h4;injection h4 with h4;omega
     rw[hlow x hxt];exact h4
    ·exact Or.inr ⟨j,d,hup h4,by rw[hlow v h3];exact h5,h6⟩
   ·rcases hc with ⟨e1,_,_⟩|⟨n0,k0,l0,e1,e2,e3,e4⟩
    ·exact absurd (λ n hn=>by rw[e1]at hn;simp at hn) hfin
    ·have hmem:∃n,(v,n)∈s.work/\n<=k:=by
      refine Qv λ hno=>hfin λ n hn=>?_;refine Qv λ hlt=>hno ⟨n,hn,by omega⟩
     obtain ⟨n,hn,hnk⟩:=hmem;have hvn:v=n0:=by
      refine Qv λ hne=>?_;have:(v,n)∈w1++[(t,0)]:=by
       rw[e1]at hn;rcases Qk.1 hn with hn|hn
       ·rw[e2];simp[hn]
       ·simp at hn;exact absurd hn.1 hne
      have:=hw n this;omega
     subst hvn;have hnk0:=h.work_top e1 hn;have:=hw (k0+1) (by rw[e2];simp);have hkk:k=k0:=by omega
     subst hkk;rw[hl]at e3;injection e3 with e3;subst e3;rw[hk]at e4;injection e4 with e4;subst e4;obtain ⟨d,hd,h5,h6⟩:=h.on i v h2;exact Or.inr ⟨s.opn.length,d,hnew,by rw[hlow v h3];exact hd,by omega⟩
  ·have:=hw 0 (by simp);omega
 ·simp only at hi hd |-;rcases hopn i v hi with ⟨h1,h2,h3⟩|⟨rfl,rfl⟩
  ·rw[hlow v h3]at hd;obtain ⟨u,hu,hr⟩:=h.rch i v d h2 hd;exact ⟨u,hup hu,hr⟩
  ·rw[hlt]at hd;injection hd with hd;subst hd;exact ⟨v,by simp,.refl _⟩
 ·simp only at hi hd hw;rcases hopn i v hi with ⟨h1,h2,h3⟩|⟨rfl,rfl⟩
  ·rw[hlow v h3]at hd;refine h.fin i v d h2 hd λ n hn=>?_;obtain ⟨j,hj⟩:=Qo.1 hn;rcases hc with ⟨e1,_,_⟩|⟨n0,k0,l0,e1,e2,_⟩
   ·rw[e1]at hj;simp at hj
   ·rw[e1]at hn;rcases Qk.1 hn with hn|hn
    ·exact hw n (by rw[e2];simp[hn])
    ·simp at hn;exact hw (k0+1) (by rw[e2];simp[hn.1])
  ·exact absurd (by simp) (hw 0)
 ·simp only at hw hv ha hb;rcases hopn i v hv with ⟨h1,h2,h3⟩|⟨rfl,rfl⟩
  ·rcases hpos j p hj with ⟨p1,p2,p3⟩|⟨rfl,rfl⟩
   ·rcases hopn p w hw with ⟨w1',w2,w3⟩|⟨w1',_⟩
    ·rw[hlow w w3]at ha;rw[hlow v h3]at hb;refine h.near j p i w v a b p2 hpi (λ p' hp'=>hn p' ?_) w2 h2 ha hb;rw[Qf (Qa.1 hp').1];exact hp'
    ·omega
   ·omega
  ·rcases hpos j p hj with ⟨p1,p2,p3⟩|⟨rfl,rfl⟩
   ·exfalso
    rcases Qay (j+1) pos.length with q1|q1
    ·have:=hn _ (by rw[Qf q1];exact Qb q1);have h5:=hposl (Qj q1);omega
    ·have e:j+1=pos.length:=by omega
     have:=hn s.opn.length (by rw[e];simp);omega
   ·rcases hopn _ w hw with ⟨w1',_,_⟩|⟨_,rfl⟩
    ·omega
    ·rw[ha]at hb;injection hb with hb;omega
 ·simp only at hw hv;rcases hopn i v hv with ⟨h1,h2,h3⟩|⟨rfl,rfl⟩
  ·rcases hpos j p hj with ⟨p1,p2,p3⟩|⟨rfl,rfl⟩
   ·rcases hopn p w hw with ⟨w1',w2,w3⟩|⟨w1',_⟩
    ·exact h.tree j p i w v p2 hpi w2 h2
    ·omega
   ·omega
  ·rcases hpos j p hj with ⟨p1,p2,p3⟩|⟨rfl,rfl⟩
   ·rcases hopn p w hw with ⟨w1',w2,w3⟩|⟨w1',_⟩
    ·rcases hc with ⟨e1,_,e3⟩|⟨n0,k0,l0,e1,e2,e3,e4⟩
     ·rw[e3]at w2;simp at w2
     ·obtain ⟨pt,p0,t1,t2,t3,t4⟩:=h.top e1;have hle:p<=pt:=by
       have:=Qe p2;rw[t1]at this;rcases Qk.1 this with h9|h9
       ·exact Nat.le_of_lt (t4 p h9)
       ·simp at h9;omega
      exact (h.tree j p pt w n0 p2 hle w2 t3).trans (.one e3 (Qe e4))
    ·omega
   ·rcases hopn _ w hw with ⟨w1',_,_⟩|⟨_,rfl⟩
    ·omega
    ·exact .refl _
theorem TI.seen (h:TI E s pos){w0:List (Nat×Nat)}{n k t dn dt:Nat}{l:List Nat}(hw:s.work=w0++[(n,k)])(hl:E[n]?=some l)(hk:l[k]?=some t)(hn:s.low[n]?=some dn)(ht:s.low[t]?=some dt)(hp:0<dt) :
  TI E ⟨s.low.set n (min dn dt),s.opn,w0++[(n,k+1)]⟩ pos:=by
 obtain ⟨p,p0,hpos,hp0,hpn,hlt⟩:=h.top hw;have hnl:=(Qa.1 hn).1;have hnm:=Qe hpn;obtain ⟨dn',hdn,hn1,hn2⟩:=h.on p n hpn;rw[hn]at hdn;injection hdn with hdn;subst hdn;have hlow:∀v,v≠n->(s.low.set n (min dn dt))[v]?=s.low[v]?:=λ v hv=>Qs (Ne.symm hv);have hself:(s.low.set n (min dn dt))[n]?=some (min dn dt):=by rw[Qn hnl]
 have hole:=h.opn_len;have hpl:=(Qa.1 hpn).1;have hnd:dn≠E.length+1:=by omega
 have hmin1:1<=min dn dt:=by omega
 have hdone:∀v,s.low[v]?=some (E.length+1)->(s.low.set n (min dn dt))[v]?=some (E.length+1):=λ v hv=>by
  have:v≠n:=by rintro rfl;rw[hn]at hv;injection hv with hv;omega
  rw[hlow v this];exact hv
 have hdone2:∀v,(s.low.set n (min dn dt))[v]?=some (E.length+1)->s.low[v]?=some (E.length+1):=λ v hv=>by
  have:v≠n:=by rintro rfl;rw[hself]at hv;injection hv with hv;omega
  rw[<-hlow v this];exact hv
 have hless:∀v d',(s.low.set n (min dn dt))[v]?=some d'->∃d,s.low[v]?=some d/\d'<=d:=λ v d' hv=>by
  by_cases e:v=n
  ·subst e;rw[hself]at hv;injection hv with hv;exact ⟨dn,hn,by omega⟩
  ·rw[hlow v e]at hv;exact ⟨d',hv,Ql _⟩
 have hwl:∀(j m k':Nat),(w0++[(n,k+1)])[j]?=some (m,k')->∃k0,s.work[j]?=some (m,k0):=λ j m k' hj=>by
  rcases Qay j w0.length with h1|h1
  ·rw[Qf h1]at hj;exact ⟨k',by rw[hw,Qf h1];exact hj⟩
  ·have:=(Qa.1 hj).1;simp at this;have e:j=w0.length:=by omega
   subst e;simp at hj;exact ⟨k,by rw[hw];simp[hj.1]⟩
 have hto:dt=E.length+1\/∃j,s.opn[j]?=some t/\dt<=j+1:=by
  by_cases hm:t∈s.opn
  ·obtain ⟨j,hj⟩:=Qo.1 hm;obtain ⟨d,hd,_,h2⟩:=h.on j t hj;rw[ht]at hd;injection hd with hd;subst hd;exact Or.inr ⟨j,hj,h2⟩
  ·rcases h.off t dt ht hm with h1|h1
   ·omega
   ·exact Or.inl h1
 refine ⟨by simpa using h.len,h.edge,λ i v hi=>?_,h.nd,λ v d hd hv=>?_,λ v l' hd hl' x hx=>?_,by rw[h.plen,hw];simp,λ j m k' q hj hq=>?_,h.inc,h.root,λ i v l' k' x hi hl' hk' hx=>?_,λ i v d hi hd=>?_,λ i v d hi hd hx=>?_,λ j q i w v a b hj hqi hx hw' hv ha hb=>?_,h.tree⟩
 ·obtain ⟨d,hd,h1,h2⟩:=h.on i v hi;by_cases e:v=n
  ·subst e;rw[hn]at hd;injection hd with hd;subst hd;exact ⟨_,hself,hmin1,by omega⟩
  ·exact ⟨d,by rw[hlow v e];exact hd,h1,h2⟩
 ·simp only at hd hv;have e:v≠n:=λ e=>hv (e ▸ hnm);rw[hlow v e]at hd;exact h.off v d hd hv
 ·exact hdone x (h.don v l' (hdone2 v hd) hl' x hx)
 ·simp only at hj;obtain ⟨k0,hk0⟩:=hwl j m k' hj;exact h.wrk j m k0 q hk0 hq
 ·simp only at hi hx |-;by_cases hold:∀m,(v,m)∈s.work->k'<m
  ·rcases h.exp i v l' k' x hi hl' hk' hold with h4|⟨j,d,h4,h5,h6⟩
   ·exact Or.inl (hdone x h4)
   ·by_cases e:v=n
    ·subst e;rw[hn]at h5;injection h5 with h5;subst h5;exact Or.inr ⟨j,_,h4,hself,by omega⟩
    ·exact Or.inr ⟨j,d,h4,by rw[hlow v e];exact h5,h6⟩
  ·have hmem:∃m,(v,m)∈s.work/\m<=k':=by
    refine Qv λ hno=>hold λ m hm=>?_;refine Qv λ hlt=>hno ⟨m,hm,by omega⟩
   obtain ⟨m,hm,hmk⟩:=hmem;have hvn:v=n:=by
    refine Qv λ hne=>?_;have:(v,m)∈w0++[(n,k+1)]:=by
     rw[hw]at hm;rcases Qk.1 hm with hm|hm
     ·simp[hm]
     ·simp at hm;exact absurd hm.1 hne
    have:=hx m this;omega
   subst hvn;have hmk0:=h.work_top hw hm;have:=hx (k+1) (by simp);have hkk:k'=k:=by omega
   subst hkk;rw[hl]at hl';injection hl' with hl';subst hl';rw[hk]at hk';injection hk' with hk';subst hk';rcases hto with rfl|⟨j,hj,hj2⟩
   ·exact Or.inl (hdone t ht)
   ·exact Or.inr ⟨j,_,hj,hself,by omega⟩
 ·simp only at hi hd |-;by_cases e:v=n
  ·subst e;rw[hself]at hd;injection hd with hd;subst hd;rcases Nat.le_total dn dt with h1|h1
   ·rw[Qb8 h1];exact h.rch i v dn hi hn
   ·rw[Nat.min_eq_right h1];rcases hto with h2|⟨j,hj,hj2⟩
    ·omega
    ·obtain ⟨u,hu,hr⟩:=h.rch j t dt hj ht;exact ⟨u,hu,(Rc.one hl (Qe hk)).trans hr⟩
  ·rw[hlow v e]at hd;exact h.rch i v d hi hd
 ·simp only at hi hd hx;obtain ⟨d0,hd0,hle⟩:=hless v d hd;have:v≠n:=by rintro rfl;exact hx (k+1) (by simp)
  have:=h.fin i v d0 hi hd0 λ m hm=>?_
  ·omega
  ·rw[hw]at hm;rcases Qk.1 hm with hm|hm
   ·exact hx m (by simp[hm])
   ·simp at hm;exact this hm.1
 ·simp only at hw' hv ha hb;obtain ⟨a0,ha0,hle⟩:=hless w a ha;by_cases e:v=n
  ·subst e;have hip:=at_nd h.nd hv hpn;subst hip;have hqp:q=i:=by
    refine Qv λ hne=>?_;have hjl:j<p0.length:=by
     refine Qv λ hge=>?_;have:=(Qa.1 hj).1;rw[hpos]at this;simp at this;have e:j=p0.length:=by omega
     subst e;rw[hpos]at hj;simp at hj;exact hne hj.symm
    rcases Qay (j+1) p0.length with h1|h1
    ·have:=hx p0[j+1] (by rw[hpos,Qf h1];exact Qb h1);have:=hlt _ (Qj h1);omega
    ·have e:j+1=p0.length:=by omega
     have:=hx i (by rw[hpos,e];simp);omega
   subst hqp;rw[hpn]at hw';injection hw' with hw';subst hw';rw[ha]at hb;injection hb with hb;omega
  ·rw[hlow v e]at hb;have:=h.near j q i w v a0 b hj hqi hx hw' hv ha0 hb;omega
structure Grp (E:List (List Nat))(low:List Nat)(g:List Nat):Prop where
 ne:g≠[]
 nd:g.Nodup
 lt:∀v∈g,v<E.length
 new:∀v∈g,∃d,low[v]?=some d/\1<=d/\d<=E.length
 scc:∀u∈g,∀v∈g,Rc E u v
 out:∀v∈g,∀l,E[v]?=some l->∀t∈l,t∈g\/low[t]?=some (E.length+1)
def setAll (low:List Nat)(g:List Nat)(d:Nat):List Nat:=g.foldl (λ a v=>a.set v d) low
theorem setAll_len (g:List Nat)(d:Nat):∀(low:List Nat),(setAll low g d).length=low.length:=by
 induction g with
 | nil=>intro low;rfl
 | cons v g ih=>intro low;show (setAll (low.set v d) g d).length=_;rw[ih];simp
theorem setAll_out {g:List Nat}{d:Nat}:∀{low:List Nat} {v:Nat},v∉g->(setAll low g d)[v]?=low[v]?:=by
 induction g with
 | nil=>intro low v _;rfl
 | cons u g ih=>
  intro low v hv
  show (setAll (low.set u d) g d)[v]?=_
  rw[ih λ h=>hv (by simp[h]),Qs λ e=>hv (by simp[e])]
theorem setAll_in {g:List Nat}{d:Nat}:∀{low:List Nat} {v:Nat},v∈g->v<low.length->(setAll low g d)[v]?=some d:=by
 induction g with
 | nil=>intro low v hv;cases hv
 | cons u g ih=>
  intro low v hv hl
  show (setAll (low.set u d) g d)[v]?=_
  by_cases hm:v∈g
  ·exact ih hm (by simpa using hl)
  ·rw[setAll_out hm];rcases Qaa.1 hv with rfl|h
   ·exact Qn hl
   ·exact absurd h hm
theorem TI.leave (h:TI E s pos){w0 w1:List (Nat×Nat)}{n k m km dn dm:Nat}{l:List Nat}(hw:s.work=w1++[(m,km)]++[(n,k)])(hl:E[n]?=some l)(hk:l.length<=k)(hn:s.low[n]?=some dn)(hm:s.low[m]?=some dm)(hne:∀p,s.opn[p]?=some n->dn≠p+1) :
  TI E ⟨s.low.set m (min dm dn),s.opn,w1++[(m,km)]⟩ pos.dropLast:=by
 obtain ⟨p,p0,hpos,hp0,hpn,hlt⟩:=h.top hw;have hm1:s.work[w1.length]?=some (m,km):=by rw[hw];simp
 have hp0l:p0.length=w1.length+1:=by rw[hp0];simp
 obtain ⟨pm,hpm⟩:∃pm,p0[w1.length]?=some pm:=⟨_,Qb (by omega)⟩;have hpm':pos[w1.length]?=some pm:=by rw[hpos,Qf (by omega)];exact hpm
 have hpmn:=h.wrk _ _ _ _ hm1 hpm';have hpmp:pm<p:=hlt pm (Qe hpm);have hlast:∀q∈p0,q<=pm:=λ q hq=>by
  obtain ⟨j,hj⟩:=Qo.1 hq;have hjl:=(Qa.1 hj).1;rcases Qay j w1.length with h1|h1
  ·have hinc:=h.inc;rw[hpos,Qao]at hinc;have h2:=Qt.1 hinc.1 j w1.length hjl (by omega) h1;rw[(Qa.1 hj).2,(Qa.1 hpm).2]at h2;omega
  ·have e:j=w1.length:=by omega
   subst e;rw[hj]at hpm;injection hpm with hpm;omega
 have hmn:m≠n:=by rintro rfl;have:=at_nd h.nd hpn hpmn;omega
 have hml:=(Qa.1 hm).1;obtain ⟨dm',hdm,hm1',hm2'⟩:=h.on pm m hpmn;rw[hm]at hdm;injection hdm with hdm;subst hdm;obtain ⟨dn',hdn,hn1',hn2'⟩:=h.on p n hpn;rw[hn]at hdn;injection hdn with hdn;subst hdn;have hdn2:=hne p hpn;have hole:=h.opn_len;have hpl:=(Qa.1 hpn).1;have hmin1:1<=min dm dn:=by omega
 have hlow:∀v,v≠m->(s.low.set m (min dm dn))[v]?=s.low[v]?:=λ v hv=>Qs (Ne.symm hv);have hself:(s.low.set m (min dm dn))[m]?=some (min dm dn):=by rw[Qn hml]
 have hdone:∀v,s.low[v]?=some (E.length+1)->(s.low.set m (min dm dn))[v]?=some (E.length+1):=λ v hv=>by
  have:v≠m:=by rintro rfl;rw[hm]at hv;injection hv with hv;omega
  rw[hlow v this];exact hv
 have hdone2:∀v,(s.low.set m (min dm dn))[v]?=some (E.length+1)->s.low[v]?=some (E.length+1):=λ v hv=>by
  have:v≠m:=by rintro rfl;rw[hself]at hv;injection hv with hv;omega
  rw[<-hlow v this];exact hv
 have hless:∀v d',(s.low.set m (min dm dn))[v]?=some d'->∃d,s.low[v]?=some d/\d'<=d:=λ v d' hv=>by
  by_cases e:v=m
  ·subst e;rw[hself]at hv;injection hv with hv;exact ⟨dm,hm,by omega⟩
  ·rw[hlow v e]at hv;exact ⟨d',hv,Ql _⟩
 have hdl:pos.dropLast=p0:=by rw[hpos];simp
 rw[hdl];have hmem:∀v x,(v,x)∈s.work->v≠n->(v,x)∈w1++[(m,km)]:=λ v x hv hvn=>by
  rw[hw]at hv;rcases Qk.1 hv with hv|hv
  ·exact hv
  ·simp at hv;exact absurd hv.1 hvn
 have hp0p:∀(j q:Nat),p0[j]?=some q->pos[j]?=some q:=λ j q hj=>by rw[hpos,Qf (Qa.1 hj).1];exact hj
 refine ⟨by simpa using h.len,h.edge,λ i v hi=>?_,h.nd,λ v d hd hv=>?_,λ v l' hd hl' x hx=>?_,by simp[hp0l],λ j v x q hj hq=>?_,?_,λ ho=>?_,λ i v l' k' x hi hl' hk' hx=>?_,λ i v d hi hd=>?_,λ i v d hi hd hx=>?_,λ j q i w v a b hj hqi hx hw' hv ha hb=>?_,λ j q i w v hj hqi=>h.tree j q i w v (hp0p j q hj) hqi⟩
 ·obtain ⟨d,hd,h1,h2⟩:=h.on i v hi;by_cases e:v=m
  ·subst e;have:=at_nd h.nd hi hpmn;subst this;exact ⟨_,hself,hmin1,by omega⟩
  ·exact ⟨d,by rw[hlow v e];exact hd,h1,h2⟩
 ·simp only at hd hv;have e:v≠m:=λ e=>hv (e ▸ Qe hpmn);rw[hlow v e]at hd;exact h.off v d hd hv
 ·exact hdone x (h.don v l' (hdone2 v hd) hl' x hx)
 ·simp only at hj;have hjl:=(Qa.1 hj).1;exact h.wrk j v x q (by rw[hw,Qf hjl];exact hj) (hp0p j q hq)
 ·have:=h.inc;rw[hpos,Qao]at this;exact this.1
 ·have:=h.root ho;rw[hpos,Qf (by omega)]at this;exact this
 ·simp only at hi hx |-;have hold:∀y,(v,y)∈s.work->k'<y:=λ y hy=>by
   by_cases e:v=n
   ·subst e;have:=h.work_top hw hy;subst this;rw[hl]at hl';injection hl' with hl';subst hl';have:=(Qa.1 hk').1;omega
   ·exact hx y (hmem v y hy e)
  rcases h.exp i v l' k' x hi hl' hk' hold with h4|⟨j,d,h4,h5,h6⟩
  ·exact Or.inl (hdone x h4)
  ·by_cases e:v=m
   ·subst e;rw[hm]at h5;injection h5 with h5;subst h5;exact Or.inr ⟨j,_,h4,hself,by omega⟩
   ·exact Or.inr ⟨j,d,h4,by rw[hlow v e];exact h5,h6⟩
 ·simp only at hi hd |-;by_cases e:v=m
  ·subst e;rw[hself]at hd;injection hd with hd;subst hd;rcases Nat.le_total dm dn with h1|h1
   ·rw[Qb8 h1];exact h.rch i v dm hi hm
   ·rw[Nat.min_eq_right h1];obtain ⟨u,hu,hr⟩:=h.rch p n dn hpn hn;exact ⟨u,hu,(h.tree _ _ _ _ _ hpm' (Nat.le_of_lt hpmp) hpmn hpn).trans hr⟩
  ·rw[hlow v e]at hd;exact h.rch i v d hi hd
 ·simp only at hi hd hx;obtain ⟨d0,hd0,hle⟩:=hless v d hd;by_cases e:v=n
  ·subst e;have:=at_nd h.nd hi hpn;subst this;rw[hn]at hd0;injection hd0 with hd0;subst hd0;omega
  ·have:=h.fin i v d0 hi hd0 λ y hy=>hx y (hmem v y hy e);omega
 ·simp only at hw' hv ha hb;have hb':∃b0,s.low[v]?=some b0/\(v≠m->b=b0):=by
   by_cases e:v=m
   ·subst e;exact ⟨dm,hm,λ h=>absurd rfl h⟩
   ·rw[hlow v e]at hb;exact ⟨b,hb,λ _=>rfl⟩
  obtain ⟨b0,hb0,hbe⟩:=hb';have hwq:=hp0p j q hj;by_cases hjt:j=w1.length
  ·subst hjt;rw[hpm]at hj;injection hj with hj;subst hj;rw[hpmn]at hw';injection hw' with hw';subst hw';rw[hself]at ha;injection ha with ha;subst ha;by_cases evm:v=m
   ·subst evm;rw[hself]at hb;injection hb with hb;omega
   ·have hbb:=hbe evm;subst hbb;rcases Qay i p with h1|h1
    ·have:=h.near w1.length pm i m v dm b hpm' hqi (λ p' hp'=>by
      rw[hpos,Qi (by omega),hp0l,Qam]at hp'
      injection hp' with hp';omega) hpmn hv hm hb0
     omega
    ·have hpp:pos[w1.length+1]?=some p:=by rw[hpos,Qi (by omega),hp0l,Qam];rfl
     have:=h.near (w1.length+1) p i n v dn b hpp h1 (λ p' hp'=>by
      rw[hpos,Qi (by omega)]at hp'
      have:=(Qa.1 hp').1
      simp at this;omega) hpn hv hn hb0
     omega
  ·have hjl:=(Qa.1 hj).1;have hj1:j+1<p0.length:=by omega
   have hi2:=hx _ (Qb hj1);have hi3:=hlast _ (Qj hj1);have evm:v≠m:=by rintro rfl;have:=at_nd h.nd hv hpmn;omega
   have hbb:=hbe evm;subst hbb;have ewm:w≠m:=by
    rintro rfl;have:=at_nd h.nd hw' hpmn;omega
   rw[hlow w ewm]at ha;exact h.near j q i w v a b hwq hqi (λ p' hp'=>by
    rw[hpos,Qf hj1]at hp'
    exact hx p' hp') hw' hv ha hb0
theorem TI.root_low (h:TI E s pos){n k dn:Nat}(hw:s.work=[(n,k)])(hn:s.low[n]?=some dn):s.opn[0]?=some n/\dn=1:=by
 obtain ⟨p,p0,hpos,hp0,hpn,_⟩:=h.top (w0:=[]) (n:=n) (k:=k) (by simpa using hw);have hp0':p0=[]:=Qal (by simpa using hp0);subst hp0';have hne:s.opn≠[]:=λ e=>by rw[e]at hpn;simp at hpn
 have:=h.root hne;rw[hpos]at this;simp at this;subst this;obtain ⟨d,hd,h1,h2⟩:=h.on 0 n hpn;rw[hn]at hd;injection hd with hd;exact ⟨hpn,by omega⟩
theorem TI.close (h:TI E s pos){w0:List (Nat×Nat)}{n k p:Nat}{l:List Nat}(hw:s.work=w0++[(n,k)])(hl:E[n]?=some l)(hk:l.length<=k)(hp:s.opn[p]?=some n)(hn:s.low[n]?=some (p+1)) :
  TI E ⟨setAll s.low (s.opn.drop p) (E.length+1),s.opn.take p,w0⟩ pos.dropLast/\Grp E s.low (s.opn.drop p):=by
 obtain ⟨p',p0,hpos,hp0,hpn,hlt⟩:=h.top hw;have hpp:=at_nd h.nd hp hpn;subst hpp;have hdl:pos.dropLast=p0:=by rw[hpos];simp
 have hpl:=(Qa.1 hp).1;have hole:=h.opn_len;have htop:pos[w0.length]?=some p:=by rw[hpos,<-hp0];simp
 have hin:∀v,v∈s.opn.drop p↔∃i,p<=i/\s.opn[i]?=some v:=λ v=>by
  constructor
  ·intro hv;obtain ⟨j,hj⟩:=Qo.1 hv;rw[Qbp]at hj;exact ⟨p+j,by omega,hj⟩
  ·rintro ⟨i,hi,hv⟩;refine Qo.2 ⟨i-p,?_⟩;rw[Qbp,show p+(i-p)=i by omega];exact hv
 have hnw:∀(i v:Nat),p<i->s.opn[i]?=some v->∀y,(v,y)∉s.work:=λ i v hi hv y hy=>by
  obtain ⟨j,hj⟩:=Qo.1 hy;have hjl:=(Qa.1 hj).1;rw[<-h.plen]at hjl;obtain ⟨pj,hpj⟩:∃x,pos[j]?=some x:=⟨_,Qb hjl⟩;have:=h.wrk j v y _ hj hpj;have:=at_nd h.nd this hv;have hm:=Qe hpj;rw[hpos]at hm;rcases Qk.1 hm with h9|h9
  ·have:=hlt _ h9;omega
  ·simp at h9;omega
 have hge:∀(i v d:Nat),p<=i->s.opn[i]?=some v->s.low[v]?=some d->p+1<=d:=λ i v d hi hv hd=>
  h.near w0.length p i n v (p+1) d htop hi (λ p' hp'=>by
   have:=(Qa.1 hp').1
   rw[hpos,Qq,hp0]at this;simp at this) hp hv hn hd
 have hdown:∀m,∀(i v:Nat),i=p+m->s.opn[i]?=some v->Rc E v n:=by
  intro m
  induction m using Nat.strongRecOn with
  | ind m ih=>
   intro i v hi hv;rcases Qcd m with h0|h0
   ·subst h0;have:i=p:=by omega
    subst this;rw[hp]at hv;injection hv with hv;subst hv;exact .refl _
   ·obtain ⟨d,hd,_⟩:=h.on i v hv;have h1:=h.fin i v d hv hd (hnw i v (by omega) hv);have h2:=hge i v d (by omega) hv hd;obtain ⟨u,hu,hr⟩:=h.rch i v d hv hd;exact hr.trans (ih (d-1-p) (by omega) (d-1) u (by omega) hu)
 have hgrp:Grp E s.low (s.opn.drop p):=by
  refine ⟨λ e=>?_,h.nd.sublist (List.drop_sublist _ _),λ v hv=>?_,λ v hv=>?_,λ u hu v hv=>?_,λ v hv l' hl' t ht=>?_⟩
  ·have:=(hin n).2 ⟨p,Ql _,hp⟩;rw[e]at this;cases this
  ·obtain ⟨i,_,hi⟩:=(hin v).1 hv;exact h.opn_lt hi
  ·obtain ⟨i,_,hi⟩:=(hin v).1 hv;obtain ⟨d,h1,h2,h3⟩:=h.on i v hi;have:=(Qa.1 hi).1;exact ⟨d,h1,h2,by omega⟩
  ·obtain ⟨i,h1,h2⟩:=(hin u).1 hu;obtain ⟨j,h3,h4⟩:=(hin v).1 hv;exact (hdown (i-p) i u (by omega) h2).trans (h.tree _ _ _ _ _ htop h3 hp h4)
  ·obtain ⟨i,h1,h2⟩:=(hin v).1 hv;obtain ⟨kt,hkt⟩:=Qo.1 ht;have hfin:∀y,(v,y)∈s.work->kt<y:=λ y hy=>by
    rcases Qay p i with h3|h3
    ·exact absurd hy (hnw i v h3 h2 y)
    ·have:i=p:=by omega
     subst this;rw[hp]at h2;injection h2 with h2;subst h2;have:=h.work_top hw hy;subst this;rw[hl]at hl';injection hl' with hl';subst hl';have:=(Qa.1 hkt).1;omega
   rcases h.exp i v l' kt t h2 hl' hkt hfin with h4|⟨j,d,h4,h5,h6⟩
   ·exact Or.inr h4
   ·have:=hge i v d h1 h2 h5;exact Or.inl ((hin t).2 ⟨j,by omega,h4⟩)
 refine ⟨?_,hgrp⟩;have hlen:=h.len;have hgl:∀v∈s.opn.drop p,v<s.low.length:=λ v hv=>by rw[hlen];exact hgrp.lt v hv
 have hout:∀v,v∉s.opn.drop p->(setAll s.low (s.opn.drop p) (E.length+1))[v]?=s.low[v]?:=λ v hv=>setAll_out hv;have hins:∀v,v∈s.opn.drop p->(setAll s.low (s.opn.drop p) (E.length+1))[v]?=some (E.length+1):=λ v hv=>setAll_in hv (hgl v hv);have htake:∀(i v:Nat),(s.opn.take p)[i]?=some v↔i<p/\s.opn[i]?=some v:=λ i v=>by
  rw[Qbm];split
  ·rename_i h1;exact ⟨λ h2=>⟨h1,h2⟩,λ h2=>h2.2⟩
  ·rename_i h1;exact ⟨λ h2=>(by cases h2),λ h2=>absurd h2.1 h1⟩
 have hno:∀(i v:Nat),i<p->s.opn[i]?=some v->v∉s.opn.drop p:=λ i v hi hv hm=>by
  obtain ⟨j,h1,h2⟩:=(hin v).1 hm;have:=at_nd h.nd hv h2;omega
 have hdone:∀t,s.low[t]?=some (E.length+1)->(setAll s.low (s.opn.drop p) (E.length+1))[t]?=some (E.length+1):=λ t ht=>by
  by_cases hm:t∈s.opn.drop p
  ·exact hins t hm
  ·rw[hout t hm];exact ht
 have hp0p:∀(j q:Nat),p0[j]?=some q->pos[j]?=some q:=λ j q hj=>by rw[hpos,Qf (Qa.1 hj).1];exact hj
 rw[hdl];refine ⟨by rw[setAll_len];exact hlen,h.edge,λ i v hi=>?_,h.nd.sublist (List.take_sublist _ _),λ v d hd hv=>?_,λ v l' hd hl' x hx=>?_,by simpa using hp0,λ j v x q hj hq=>?_,?_,λ ho=>?_,λ i v l' k' x hi hl' hk' hx=>?_,λ i v d hi hd=>?_,λ i v d hi hd hx=>?_,λ j q i w v a b hj hqi hx hw' hv ha hb=>?_,λ j q i w v hj hqi hw' hv=>?_⟩
 ·obtain ⟨h1,h2⟩:=(htake i v).1 hi;obtain ⟨d,hd,h3,h4⟩:=h.on i v h2;exact ⟨d,by rw[hout v (hno i v h1 h2)];exact hd,h3,h4⟩
 ·simp only at hd hv;by_cases hm:v∈s.opn.drop p
  ·rw[hins v hm]at hd;injection hd with hd;exact Or.inr hd.symm
  ·rw[hout v hm]at hd;refine h.off v d hd λ h2=>?_;rw[<-Qag p s.opn]at h2;rcases Qk.1 h2 with h2|h2
   ·exact hv h2
   ·exact hm h2
 ·simp only at hd |-;by_cases hm:v∈s.opn.drop p
  ·rcases hgrp.out v hm l' hl' x hx with h2|h2
   ·exact hins x h2
   ·exact hdone x h2
  ·rw[hout v hm]at hd;exact hdone x (h.don v l' hd hl' x hx)
 ·simp only at hj;have hjl:=(Qa.1 hj).1;refine (htake q v).2 ⟨hlt q (Qe hq),h.wrk j v x q (by rw[hw,Qf hjl];exact hj) (hp0p j q hq)⟩
 ·have:=h.inc;rw[hpos,Qao]at this;exact this.1
 ·have h1:s.opn≠[]:=λ e=>ho (by simp[e]);have h2:=h.root h1;rw[hpos]at h2;rcases Qcd p0.length with h3|h3
  ·have:=Qal h3;subst this;simp at h2;subst h2;exact absurd (by simp) ho
  ·rw[Qf h3]at h2;exact h2
 ·simp only at hi hx |-;obtain ⟨h1,h2⟩:=(htake i v).1 hi;have hv:=hno i v h1 h2;have hold:∀y,(v,y)∈s.work->k'<y:=λ y hy=>by
   rw[hw]at hy;rcases Qk.1 hy with hy|hy
   ·exact hx y hy
   ·simp at hy
    exfalso
    have:=hy.1;subst this;exact hv ((hin v).2 ⟨p,Ql _,hp⟩)
  rcases h.exp i v l' k' x h2 hl' hk' hold with h4|⟨j,d,h4,h5,h6⟩
  ·exact Or.inl (hdone x h4)
  ·rcases Qay j p with h7|h7
   ·exact Or.inr ⟨j,d,(htake j x).2 ⟨h7,h4⟩,by rw[hout v hv];exact h5,h6⟩
   ·exact Or.inl (hins x ((hin x).2 ⟨j,h7,h4⟩))
 ·simp only at hi hd |-;obtain ⟨h1,h2⟩:=(htake i v).1 hi;rw[hout v (hno i v h1 h2)]at hd;obtain ⟨d',hd',h3,h4⟩:=h.on i v h2;rw[hd]at hd';injection hd' with hd';subst hd';obtain ⟨u,hu,hr⟩:=h.rch i v d h2 hd;exact ⟨u,(htake _ u).2 ⟨by omega,hu⟩,hr⟩
 ·simp only at hi hd hx;obtain ⟨h1,h2⟩:=(htake i v).1 hi;have hv:=hno i v h1 h2;rw[hout v hv]at hd;refine h.fin i v d h2 hd λ y hy=>?_;rw[hw]at hy;rcases Qk.1 hy with hy|hy
  ·exact hx y hy
  ·simp at hy;have:=hy.1;subst this;exact hv ((hin v).2 ⟨p,Ql _,hp⟩)
 ·simp only at hw' hv ha hb;obtain ⟨h1,h2⟩:=(htake i v).1 hv;obtain ⟨h3,h4⟩:=(htake q w).1 hw';rw[hout v (hno i v h1 h2)]at hb;rw[hout w (hno q w h3 h4)]at ha;refine h.near j q i w v a b (hp0p j q hj) hqi (λ p' hp'=>?_) h4 h2 ha hb;rw[hpos]at hp';rcases Qay (j+1) p0.length with h5|h5
  ·rw[Qf h5]at hp';exact hx p' hp'
  ·rw[Qi h5]at hp';have:=(Qa.1 hp').1;simp at this;have e:j+1-p0.length=0:=by omega
   rw[e]at hp';simp at hp';omega
 ·simp only at hw' hv;exact h.tree j q i w v (hp0p j q hj) hqi ((htake q w).1 hw').2 ((htake i v).1 hv).2
end
section
variable {E:List (List Nat)} {low g:List Nat}
theorem Grp.reach (h:Grp E low g){v u:Nat}(hv:v∈g)(hr:Rc E v u):u∈g\/∃n∈g,∃l,E[n]?=some l/\∃t∈l,t∉g/\Rc E t u:=by
 induction hr with
 | refl=>exact Or.inl hv
 | @step w x l h1 h2 h3 ih=>
  rcases ih with h4|⟨n,hn,l',hl,t,ht,h5,h6⟩
  ·by_cases hx:x∈g
   ·exact Or.inl hx
   ·exact Or.inr ⟨w,h4,l,h2,x,h3,hx,.refl _⟩
  ·exact Or.inr ⟨n,hn,l',hl,t,ht,h5,.step h6 h2 h3⟩
def Sol (E own:List (List Nat))(v m:Nat):Prop:=∃u l,Rc E v u/\own[u]?=some l/\m∈l
theorem Grp.sol {own:List (List Nat)}(h:Grp E low g){v:Nat}(hv:v∈g)(m:Nat) :
  Sol E own v m↔∃n∈g,(∃l,own[n]?=some l/\m∈l)\/∃l,E[n]?=some l/\∃t∈l,t∉g/\Sol E own t m:=by
 constructor
 ·rintro ⟨u,l,h1,h2,h3⟩;rcases h.reach hv h1 with h4|⟨n,hn,l',hl,t,ht,h5,h6⟩
  ·exact ⟨u,h4,Or.inl ⟨l,h2,h3⟩⟩
  ·exact ⟨n,hn,Or.inr ⟨l',hl,t,ht,h5,u,l,h6,h2,h3⟩⟩
 ·rintro ⟨n,hn,⟨l,h1,h2⟩|⟨l,hl,t,ht,_,u,l',h1,h2,h3⟩⟩
  ·exact ⟨n,l,h.scc v hv n hn,h1,h2⟩
  ·exact ⟨u,l',(h.scc v hv n hn).trans ((Rc.one hl ht).trans h1),h2,h3⟩
end
end Go.Px.Dg
namespace Go.Proofs.YtjibcckpehdbhaaGreatDoor
open Go.Px Go.Px.Scan Go.Px.Cn Go.RowKit
attribute [-go_sem] Builtin.append_
theorem Zn3 {G:Nat->Prop}{W w:World}{L:List Ch}(s:St G W w L){B:Nat}{v:Value}{l:List Int}(h:(Zq rInt).at1 w B v l)(hn:l.length<=1000000000) :
  Ct Tryz.prog Zb0.id #[v] w λ v' w'=>∃a c,v' = .slice a l.length c/\St G W w' (L++[rowC 3 1 a l.length c (ints l)]):=by
 refine Zb0.ct λ R hR=>?_;obtain ⟨A,c,rfl,hl,hm,_⟩:=Zz h;unfold Zb0.run;simp -dsimp[go_sem];rw[Zfz 24 Zgn];simp -dsimp[go_sem]
 cases A with
 | none=>
  have hl0:l=[]:=Qv λ hne=>by
   obtain ⟨b,o,e,_⟩:=Go.Px.ints_at h (i:=0) (Qa6.2 hne);cases e
  subst hl0;simp -dsimp[go_sem];exact hR _ _ ⟨none,0,rfl,s.nilRow 3 1⟩
 | some a=>
  have s1:=s.lit 3 1 0 #[] (by simp) (by simp);simp -dsimp[go_sem];refine s1.appendN L.length (by simp;rfl) Zgn iInt rfl (by decide) (m:=l.length) (news:=ints l) (by unfold ints;simp) (λ j u hj=>?_) (λ u hu=>?_) (by unfold maxLen;omega) (by unfold Zaf;omega) λ a' c' w' s2 hg=>?_
  ·unfold ints at hj;rw[Qh]at hj;obtain ⟨x,hx,rfl⟩:=Q4.1 hj;obtain ⟨hj1,hj2⟩:=Qa.1 hx;obtain ⟨b',o',e,_,hc,_⟩:=Go.Px.ints_at h hj1;injection e with e;subst e;rw[hj2]at hc;rw[Addr.add_lit,World.cell?_alloc_lt _ _ _ (World.block_lt_of_cell? _ _ hc)];exact hc
  ·unfold ints at hu;obtain ⟨x,_,rfl⟩:=Qr.1 hu;rfl
  ·rw[Qac _ _ (Ql _),Qam,Qcy,Qa3]at s2;rw[Qa3];exact hR _ _ ⟨a',c',rfl,s2⟩
def nats (l:List Nat):List Value:=l.map λ x=>Value.int .i64 (x:Nat)
theorem Zdy (l:List Nat):(nats l).length=l.length:=by unfold nats;simp
def wkV (x:Nat×Nat):List Value:=[.int .i64 (x.1:Nat),.int .i64 (x.2:Nat)]
theorem St.popRows {G:Nat->Prop}{W w:World}{e:TypeId}{size:Nat}{a:Option Addr}{c:Nat}{L:List Ch}(k:Nat):∀(m n:Nat) {xs last:List Value},St G W w L->L[k]?=some (rowC e size a (n+m) c (xs++last))->xs.length=n*size->last.length=m*size->St G W w (L.set k (rowC e size a n c xs))
 | 0,n,xs,last,s,hk,hx,hl=>by
  have:last=[]:=Qcl.1 (by rw[hl];omega)
  subst this
  rw[Qas]at hk
  have hkl:=(Qa.1 hk)
  have e:L.set k (rowC e size a n c xs)=L:=by
   have:=Qai hkl.1;rw[hkl.2]at this;exact this
  rw[e];exact s
 | m+1,n,xs,last,s,hk,hx,hl=>by
  have hkl:=(Qa.1 hk).1;have e1:xs++last=(xs++last.take (m*size))++last.drop (m*size):=by rw[Q5,Qag]
  rw[e1,show n+(m+1)=(n+m)+1 by omega]at hk;have h1:(last.take (m*size)).length=m*size:=by rw[Q6,hl];exact Qb8 (Qbr _ (by omega))
  have s1:=Go.Px.St.popRow s k hk (by rw[Qq,hx,h1,Qdt]);have:=St.popRows k m n s1 (Qn hkl) hx h1;rwa [Qbe]at this
theorem ZZ111:(Tryz.prog.info? 403).map (λ i=>(i.zero,i.size,i.bytes))=some (some (.agg #[.int .i64 0,.int .i64 0]),2,16):=by kernel_rfl
theorem ZZ27:Tryz.prog.underlying 401=some (.slice 403):=Tryz.underlying401
theorem ZZ136 (x:Int)(w:World):(Instr.build 403 #[(0,.int .i64 x)]).run Tryz.prog w = .ok (.agg #[.int .i64 x,.int .i64 0]) w:=by simp[go_sem]
attribute [go_sem ↓] ZZ136
def eL (ov lv wv lb n:Nat)(oa:Option Addr)(oc:Nat)(wa:Option Addr)(wc:Nat)(s:Dg.TS):List Ch :=
 [boxC ov 24 [.slice oa s.opn.length oc],rowC 3 1 oa s.opn.length oc (nats s.opn),boxC lv 24 [.slice (some ⟨lb,0,none⟩) n n],rowC 3 1 (some ⟨lb,0,none⟩) n n (nats s.low),boxC wv 401 [.slice wa s.work.length wc],rowC 403 2 wa s.work.length wc (s.work.flatMap wkV)]
theorem Zt1 (l:List Nat)(x:Nat):nats (l++[x])=nats l++[.int .i64 (x:Nat)]:=by unfold nats;simp
theorem Zjt (l:List Nat)(i x:Nat):nats (l.set i x)=(nats l).set i (.int .i64 (x:Nat)):=by unfold nats;rw[Qap]
theorem Zqd {G:Nat->Prop}{W w:World}{ov lv wv lb n:Nat}{oa:Option Addr}{oc:Nat}{wa:Option Addr}{wc:Nat}{s:Dg.TS}{M:List Ch}{t:Nat}(st:St G W w (eL ov lv wv lb n oa oc wa wc s++M))(ht:t<n)(hn:s.low.length=n)(hn2:n<=1000000)(ho:s.opn.length<=1000000)(hw:s.work.length<=1000000) :
  Ct Tryz.prog Zc4.id #[.int .i64 t,.pointer (some ⟨ov,0,none⟩),.pointer (some ⟨lv,0,none⟩),.pointer (some ⟨wv,0,none⟩)] w λ _ w'=>∃oa' oc' wa' wc',St G W w' (eL ov lv wv lb n oa' oc' wa' wc' ⟨s.low.set t (s.opn.length+1),s.opn++[t],s.work++[(t,0)]⟩++M):=by
 refine Zc4.ct λ R hR=>?_;have y0:=(st.box 0 rfl).1;simp[Zw]at y0;unfold Zc4.run;simp -dsimp[go_sem,y0];refine st.append1 1 (e:=3) (size:=1) (a0:=oa) (n:=s.opn.length) (c:=oc) (xs:=nats s.opn) rfl Zgn iInt rfl (by decide) (news:=[.int .i64 (t:Nat)]) rfl (by simp[Value.oneCell']) (by unfold maxLen;omega) (by unfold Zaf;omega) ?_;intro gA cap w1 s1;have y1:=(s1.box 0 rfl).1;have f1:=(s1.box 0 rfl).2.1;simp[Zw]at y1;have s2:=s1.set 0 rfl 0 (.slice (some ⟨gA,0,none⟩) (s.opn.length+1) cap);simp -dsimp[go_sem,y1,f1];generalize w1.setCell ⟨ov,0,none⟩ (.slice (some ⟨gA,0,none⟩) (s.opn.length+1) cap)=w2 at s2 |-;have y2:=(s2.box 2 rfl).1;have y3:=(s2.box 0 rfl).1;simp[Zw]at y2 y3;obtain ⟨gl,el,hcl,hfl⟩:=s2.rowAt 3 rfl (j:=t) (by rw[Zdy,hn];exact ht);injection el with el;injection el with el;subst el;have s3:=s2.setRow 3 rfl t (.int .i64 ((s.opn.length+1:Nat):Int));simp -dsimp[go_sem,y2,y3,ht,hcl,hfl];have e1:((s.opn.length+1:Nat):Int)=(s.opn.length:Int)+1:=by omega
 rw[e1]at s3;generalize w2.setCell ⟨lb,t,none⟩ (.int .i64 ((s.opn.length:Int)+1))=w3 at s3 |-;have y4:=(s3.box 4 rfl).1;simp[Zw]at y4;simp -dsimp[go_sem,y4];refine s3.append1 5 (e:=403) (size:=2) (a0:=wa) (n:=s.work.length) (c:=wc) (xs:=s.work.flatMap wkV) rfl ZZ27 ZZ111 rfl (by decide) (news:=[.int .i64 (t:Nat),.int .i64 0]) rfl (by simp[Value.oneCell']) (by unfold maxLen;omega) (by unfold Zaf;omega) ?_;intro gB cap2 w4 s4;have y5:=(s4.box 4 rfl).1;have f5:=(s4.box 4 rfl).2.1;simp[Zw]at y5;have s5:=s4.set 4 rfl 0 (.slice (some ⟨gB,0,none⟩) (s.work.length+1) cap2);simp -dsimp[go_sem,y5,f5];refine hR _ _ ⟨some ⟨gA,0,none⟩,cap,some ⟨gB,0,none⟩,cap2,?_⟩;unfold eL;rw[Zt1,Zjt,e1];simp only[Qq,Qby,Qab];exact s5
end Go.Proofs.YtjibcckpehdbhaaGreatDoor
namespace Go.Px.Cn
open Go.Px
def insN (a:Nat)(l:List Nat):List Nat:=l.filter (λ x=>decide (x<a))++a::l.filter (λ x=>¬decide (x<a))
theorem Zxh {a x:Nat}{l:List Nat}:x∈insN a l↔x=a\/x∈l:=by
 unfold insN;simp only[Qk,Qaa,Qz];by_cases h:x<a<;>simp[h,or_comm]
theorem Zx6 {l:List Nat}{a k:Nat}(hk:k<=l.length)(h1:∀i (h:i<l.length),i<k->l[i]<a)(h2:∀i (h:i<l.length),k<=i->¬l[i]<a):insN a l=l.take k++a::l.drop k:=by
 have e1:l.filter (λ z=>decide (z<a))=l.take k:=by
  conv=>lhs;rw[<-Qag k l]
  rw[Qae,Qbi.2,Qbf.2,Qas]
  ·intro z hz;obtain ⟨i,hi,rfl⟩:=Q3 hz;rw[Qb6];have:=h2 (k+i) (by rw[Q7]at hi;omega) (by omega);simpa using this
  ·intro z hz;obtain ⟨i,hi,rfl⟩:=Q3 hz;rw[Qcj];rw[Q6]at hi;have:=h1 i (by omega) (by omega);simpa using this
 have e2:l.filter (λ z=>¬decide (z<a))=l.drop k:=by
  conv=>lhs;rw[<-Qag k l]
  rw[Qae,Qbf.2,Qbi.2,Qcz]
  ·intro z hz;obtain ⟨i,hi,rfl⟩:=Q3 hz;rw[Qb6];have:=h2 (k+i) (by rw[Q7]at hi;omega) (by omega);simpa using this
  ·intro z hz;obtain ⟨i,hi,rfl⟩:=Q3 hz;rw[Qcj];rw[Q6]at hi;have:=h1 i (by omega) (by omega);simpa using this
 unfold insN;rw[e1,e2]
theorem Zzd {a:Nat}{l:List Nat}(h:l.Pairwise (· < ·))(ha:a∉l):(insN a l).Pairwise (· < ·):=by
 unfold insN;refine Qao.2 ⟨h.filter _,Qcc.2 ⟨λ x hx=>?_,h.filter _⟩,λ x hx y hy=>?_⟩
 ·have:=Qz.1 hx;have h1:¬x<a:=by simpa using this.2
  have h2:x≠a:=λ e=>ha (e ▸ this.1);omega
 ·have h1:x<a:=by simpa using (Qz.1 hx).2
  rcases Qaa.1 hy with rfl|hy
  ·exact h1
  ·have:¬y<a:=by simpa using (Qz.1 hy).2
   omega
def Zec (l:List Nat):List Int:=l.map λ y:Nat=>(y:Int)
end Go.Px.Cn
namespace Go.Proofs.YtjibcckpehdbhaaGreatDoor
open Go.Px Go.Px.Scan Go.Px.Cn Go.RowKit
theorem Zmw (l:List Nat):nats l=(Zec l).flatMap λ y:Int=>[Value.int .i64 y]:=by
 unfold nats Zec
 induction l with
 | nil=>rfl
 | cons a l ih=>rw[Qbu,ih];rfl
theorem Zpl {w:World}{B:Nat}{va vb:Value}{a b:List Int}(ha:(Zq rInt).at1 w B va a)(hb:(Zq rInt).at1 w B vb b)(hB:B<=w.heap.size) :
  Ct Tryz.prog Zca.id #[va,vb] w λ v w'=>v = .bool (a == b)/\Chg noB w w':=by
 obtain ⟨A1,c1,rfl,hl1,hm1,_⟩:=Zz ha;obtain ⟨A2,c2,rfl,hl2,hm2,_⟩:=Zz hb;refine Zca.ct λ R hR=>?_;unfold Zca.run Zca.b1;simp -dsimp[go_sem];refine Za (λ h=>?_) (λ h=>?_)
 ·refine hR _ _ ⟨?_,Chg.refl _ _⟩;have:¬a=b:=by rintro rfl;simp at h
  simpa using this
 have hlen:a.length=b.length:=by simp at h;omega
 unfold Zca.b4;refine Zca.l6_intro _ _ _ _ _ (λ x w1=>∃k:Nat,x = .int .i64 k/\k<=a.length/\a.take k=b.take k/\Chg noB w w1) (λ x _=>a.length-iv x) ⟨0,rfl,by omega,rfl,Chg.refl _ _⟩ ?_;rintro _ w1 ⟨k,rfl,hk,hall,hbw⟩ C hC;simp -dsimp[go_sem];refine Za (λ h=>?_) (λ h=>?_)
 ·have hka:k<a.length:=by simpa using h
  have hkb:k<b.length:=by omega
  obtain ⟨b1,o1,rfl,hb1,hc1,hr1⟩:=Go.Px.ints_at (Rep.below ha (hbw.below hB λ _ _=>id)) hka;obtain ⟨b2,o2,rfl,hb2,hc2,hr2⟩:=Go.Px.ints_at (Rep.below hb (hbw.below hB λ _ _=>id)) hkb;have wk:=Zcv hka (Qav hl1 hm1);simp -dsimp[go_sem,hka,hkb,hc1,hc2];refine Za (λ h=>?_) (λ h=>?_)
  ·refine hR _ _ ⟨?_,hbw.drew⟩;have:¬a=b:=by rintro rfl;simp at h
   simpa using this
  ·simp -dsimp[go_sem,wk];refine hC _ _ ⟨k+1,by simp,by omega,?_,hbw.drew⟩ (by simp[iv];omega);have h:a[k]=b[k]:=by simpa using h
   rw[Qd hka,Qd hkb,hall,h]
 ·have hk9:¬k<a.length:=by simpa using h
  have hka:k=a.length:=by omega
  unfold Zca.b3;refine hR _ _ ⟨?_,hbw⟩;rw[hka,Qm,hlen,Qm]at hall;simp[hall]
attribute [-go_sem] Builtin.append_ Zbh.b4 Zbh.b6 Zbh.b5_1 Zbh.b5 Zbh.b11_1 Zbh.b10 Zbh.b12
theorem ZZ120 {w:World}{B c:Nat}{A:Option Addr}{l:List Nat}(h:(Zq rInt).at1 w B (.slice A l.length c) (Zec l))(hB:B<=w.heap.size)(hl:l.length<=1000000)(hs:l.Pairwise (· < ·))(a:Nat) :
  Ct Tryz.prog Zbh.id #[.slice A l.length c,.int .i64 a] w λ v w'=>
   (a∈l/\v = .slice A l.length c/\Chg noB w w') \/
   (a∉l/\∃gb cap,v = .slice (some ⟨gb,0,none⟩) (insN a l).length cap/\St noB w w' [rowC 3 1 (some ⟨gb,0,none⟩) (insN a l).length cap (nats (insN a l))]):=by
 have hcl:(Zec l).length=l.length:=by unfold Zec;simp
 have hce:∀i (h:i<l.length),(Zec l)[i]'(by omega)=(l[i]:Int):=λ i h=>by unfold Zec;simp
 refine Zbh.ct λ R hR=>?_;unfold Zbh.run;simp -dsimp[go_sem];refine Zbh.l8_intro _ _ _ _ _ (λ y w'=>∃k:Nat,y = .int .i64 k/\k<=l.length/\(∀i (h:i<l.length),i<k->l[i]<a)/\Chg noB w w') (λ y _=>l.length-iv y)
  ⟨0,rfl,by omega,λ i h h2=>by omega,Chg.refl _ _⟩ ?_
 rintro _ w1 ⟨k,rfl,hk,h1,hc1⟩ C hC;have fin:(∀i (h:i<l.length),k<=i->¬l[i]<a)->Zbh.b5 R (.slice A l.length c) (.int .i64 a) (.int .i64 k) w1:=by
  intro h2;have hins:=Zx6 hk h1 h2;have hil:(insN a l).length=l.length+1:=by rw[hins];simp;omega
  have fin2:a∉l->∀w',Chg noB w w'->Zbh.b4 R (.slice A l.length c) (.int .i64 a) (.int .i64 k) w':=by
   intro hna w4 hc4;obtain ⟨A',c',hv,hlc,hcm,_⟩:=Zz h;injection hv with _ _ hv;subst hv;rw[hcl]at hlc;have s5:=(St.start (G:=noB) hc4).nilRow 3 1;have key:∀x0 v1 v3:Value,(Zq rInt).at1 w B v1 ((Zec l).take k)->(Zq rInt).at1 w B v3 ((Zec l).drop k)->(∀w,Sem.run Tryz.prog (Instr.sliceAt 24 x0 (some (.int .i64 k)) none none) w = .ok v3 w)->RES (pan R) (Sem.run Tryz.prog (Builtin.append_ #[24,24] 24 #[Value.slice none 0 0,v1]) w4) λ v3' w4=>
     RUN Tryz.prog (pan R) (Instr.buildSlice 24 1 #[(0,Value.int .i64 a)]) w4 λ v5 w6=>
     RUN Tryz.prog (pan R) (Builtin.append_ #[24,24] 24 #[v3',v5]) w6 λ v7 w8=>
     RUN Tryz.prog (pan R) (Instr.sliceAt 24 x0 (some (.int .i64 k)) none none) w8 λ v9 w10=>
     RUN Tryz.prog (pan R) (Builtin.append_ #[24,24] 24 #[v7,v9]) w10 λ v11 w12=>
     R (Ending.returned v11) w12:=by
    intro x0 v1 v3 hv1 hv3 hsl;have hlt:((Zec l).take k).length=k:=by rw[Q6];omega
    have hld:((Zec l).drop k).length=l.length-k:=by rw[Q7];omega
    obtain ⟨A1,d1,rfl,_⟩:=Zz hv1;obtain ⟨A3,d3,rfl,_⟩:=Zz hv3;refine s5.appendRd (r:=rInt) (enc:=λ y:Int=>[Value.int .i64 y]) 0 rfl Zgn iInt rfl (by decide) (Rep.below hv1 (s5.chg.below hB λ _ _=>id)) (λ h _=>h.1) (λ x _ u hu=>by simp at hu;subst hu;rfl) (λ _ _=>rfl) (by unfold maxLen;omega) (by unfold Zaf;omega) ?_;intro a1 cap1 w6 s6;rw[show 0+((Zec l).take k).length=k by omega]at s6 |-;have s6:St noB w w6 [rowC 3 1 a1 k cap1 ([]++((Zec l).take k).flatMap λ y:Int=>[Value.int .i64 y])]:=s6;simp -dsimp[go_sem];refine s6.append1 0 rfl Zgn iInt rfl (by decide) (news:=[.int .i64 a]) rfl (by simp[Value.oneCell']) (by unfold maxLen;omega) (by unfold Zaf;omega) ?_;intro g2 cap2 w7 s7;have s7:St noB w w7 [rowC 3 1 (some ⟨g2,0,none⟩) (k+1) cap2 ([]++(((Zec l).take k).flatMap λ y:Int=>[Value.int .i64 y])++[.int .i64 a])]:=s7;simp -dsimp only[go_sem,hsl];refine s7.appendRd (r:=rInt) (enc:=λ y:Int=>[Value.int .i64 y]) 0 rfl Zgn iInt rfl (by decide) (Rep.below hv3 (s7.chg.below hB λ _ _=>id)) (λ h _=>h.1) (λ x _ u hu=>by simp at hu;subst hu;rfl) (λ _ _=>rfl) (by unfold maxLen;omega) (by unfold Zaf;omega) ?_;intro a3 cap3 w8 s8;have s8:St noB w w8 [rowC 3 1 a3 (k+1+((Zec l).drop k).length) cap3 ([]++(((Zec l).take k).flatMap λ y:Int=>[Value.int .i64 y])++[.int .i64 a]++((Zec l).drop k).flatMap λ y:Int=>[Value.int .i64 y])]:=s8;have e:k+1+((Zec l).drop k).length=(insN a l).length:=by omega
    rw[e]at s8 |-;have e2:[]++(((Zec l).take k).flatMap λ y:Int=>[Value.int .i64 y])++[.int .i64 a]++(((Zec l).drop k).flatMap λ y:Int=>[Value.int .i64 y])=nats (insN a l):=by
     rw[Zmw,hins];unfold Zec;simp
    rw[e2]at s8;have hpos:0<(nats (insN a l)).length:=by unfold nats;rw[Qp];omega
    obtain ⟨g3,e3,_⟩:=s8.rowAt 0 rfl (j:=0) hpos;subst e3;exact hR _ _ (Or.inr ⟨hna,g3,cap3,rfl,s8⟩)
   unfold Zbh.b4
   cases A with
   | none=>
    have hn:=Zj4 h;have hn:l=[]:=Qal (by rw[<-hcl,hn];rfl);subst hn;have h0:k=0:=by simpa using hk
    subst h0;simp -dsimp[go_sem];exact key (.slice none 0 c) (.slice none 0 c) (.slice none 0 c) h h λ w=>by simp -dsimp[go_sem]
   | some A=>
    have hkc:k<=c:=by omega
    have h':(Zq rInt).at1 w B (.slice (some A) (Zec l).length c) (Zec l):=by rw[hcl];exact h
    have k1:=Zid h' (k:=k) (by omega);have k3:=Zg0 h' (k:=k) (by omega);rw[show ((Zec l).take k).length=k by rw[Q6];omega]at k1;rw[Q7,hcl]at k3;obtain ⟨b,o,sp⟩:=A;simp -dsimp[go_sem,hk,hlc,hkc];refine key _ _ _ k1 k3 λ w=>?_;simp -dsimp[go_sem,hk,hlc,hkc,rInt]
  unfold Zbh.b5;simp -dsimp[go_sem];refine Za (λ p2=>?_) (λ p2=>?_)<;>simp at p2
  ·obtain ⟨b,o,rfl,hb,k1,_⟩:=Go.Px.ints_at (Rep.below h (hc1.below hB λ _ _=>id)) (i:=k) (by omega);rw[hce k p2]at k1;unfold Zbh.b5_1;simp -dsimp[go_sem,p2,k1];unfold Zbh.b6;refine Za (λ p3=>?_) (λ p3=>?_)<;>simp at p3
   ·exact hR _ _ (Or.inl ⟨by rw[<-Int.ofNat.inj p3];exact Qj p2,rfl,hc1⟩)
   ·refine fin2 (λ ha=>?_) _ hc1;obtain ⟨i,hi,e⟩:=Q3 ha;by_cases hik:i<k
    ·have:=h1 i hi hik;omega
    ·by_cases hik2:i=k
     ·subst hik2;exact p3 (by rw[e])
     ·have:=(Qt.1 hs) k i p2 hi (by omega);have:=h2 k p2 (Ql _);omega
  ·unfold Zbh.b6;simp -dsimp[go_sem];refine fin2 (λ ha=>?_) _ hc1;obtain ⟨i,hi,e⟩:=Q3 ha;have:=h1 i hi (by omega);omega
 simp -dsimp[go_sem];refine Za (λ p1=>?_) (λ p1=>?_)<;>simp at p1
 ·have wk:=wS k (by omega);obtain ⟨b,o,rfl,hb,k1,_⟩:=Go.Px.ints_at (Rep.below h (hc1.below hB λ _ _=>id)) (i:=k) (by omega);rw[hce k p1]at k1;unfold Zbh.b11_1;simp -dsimp[go_sem,p1,k1];unfold Zbh.b12;refine Za (λ p3=>?_) (λ p3=>?_)<;>simp at p3
  ·unfold Zbh.b10;simp -dsimp[go_sem,wk];refine hC _ _ ⟨k+1,by simp,by omega,λ i h2 h3=>?_,hc1⟩ (by simp[iv];omega);by_cases e:i=k
   ·subst e;omega
   ·exact h1 i h2 (by omega)
  ·refine fin λ i hi hki h9=>?_;by_cases e:i=k
   ·subst e;omega
   ·have:=(Qt.1 hs) k i p1 hi (by omega);omega
 ·unfold Zbh.b12;simp -dsimp[go_sem];exact fin λ i hi hki=>by omega
end Go.Proofs.YtjibcckpehdbhaaGreatDoor
namespace Go.Px.Cn
open Go.Px Go.Px.Scan
abbrev BK:=Nat×List Bool
def rowF (nT:Nat)(x:BK):Ch:=rowC 4 1 (some ⟨x.1,0,none⟩) nT nT (Zaz x.2)
def valF (nT:Nat)(x:BK):Value := .slice (some ⟨x.1,0,none⟩) nT nT
def cntK (K:List BK):Nat:=(K.map λ x=>cntF x.2).sum
theorem ZZ21 {α:Type}{f:α->Nat}{l:List α}{j:Nat}{y x:α}(h:l[j]?=some y):((l.set j x).map f).sum+f y=(l.map f).sum+f x:=by
 induction l generalizing j with
 | nil=>simp at h
 | cons a r ih=>
  match j,h with
  | 0,h=>simp at h;subst h;simp;omega
  | j+1,h=>
   have:=ih (j:=j) (by simpa using h);simp only[Qa9,Qbu,Qdo];omega
def rowI (nT i:Nat):List Bool:=if i<nT then (List.replicate nT false).set i true else List.replicate nT false
theorem Zx3 (nT i:Nat):(rowI nT i).length=nT:=by unfold rowI;split<;>simp
theorem Zl3 {nT:Nat}{null:List Bool}{has:List (List Bool)}{u:Nat}(h:∀s,(has.getD s []).getD u false=false):∀r,fstB nT null has r u=false
 | []=>rfl
 | s::r=>by rw[fstB,h,Zl3 h r];simp
end Go.Px.Cn
namespace Go.Proofs.YtjibcckpehdbhaaGreatDoor
open Go.Px Go.Px.Scan Go.Px.Cn Go.RowKit
attribute [-go_sem] Builtin.append_ Zo.b4 Zo.b14 Zo.b13_1 Zo.b10 Zo.b5 Zo.b20 Zo.b23 Zo.b22_1 Zo.b22 Zo.b15 Zo.b1_1
theorem uHas:Tryz.prog.underlying 170=some (.slice 105):=Tryz.underlying170
theorem iHas:(Tryz.prog.info? 105).map (λ i=>(i.zero,i.size,i.bytes))=some (some (.slice none 0 0),1,24):=by kernel_rfl
theorem bBeg (a b c d m:Option Addr)(n1 n2 n3 n4 n5 d1 d2 d3 d4 d5:Nat)(x:Int)(w:World):(Instr.build 217 #[(0,.agg #[.slice a n1 d1,.slice b n2 d2,.slice c n3 d3,.int .i64 x,.slice d n4 d4]),(1,.slice m n5 d5)]).run Tryz.prog w = .ok (.agg #[.slice a n1 d1,.slice b n2 d2,.slice c n3 d3,.int .i64 x,.slice d n4 d4,.slice m n5 d5,.slice none 0 0]) w:=by simp[go_sem]
section
variable {A1 A2 A3 A4:Option Addr} {c1 c2 c3 c4 n2 n3 n4 nT N mN bb q:Nat} {st:Int}
def tabB (A1 A2 A3 A4:Option Addr)(c1 c2 c3 c4 n2 n3 n4 nT N mN bb q:Nat)(st:Int)(null:List Bool)(aH:Option Addr)(cH:Nat)(K:List BK):List Ch :=
 [boxC q 27 [.slice A1 nT c1,.slice A2 n2 c2,.slice A3 n3 c3,.int .i64 st,.slice A4 n4 c4],boxC bb 217 [.slice A1 nT c1,.slice A2 n2 c2,.slice A3 n3 c3,.int .i64 st,.slice A4 n4 c4,.slice (some ⟨mN,0,none⟩) N N,.slice aH K.length cH],
   rowC 4 1 (some ⟨mN,0,none⟩) N N (Zaz null),rowC 105 1 aH K.length cH (K.map (valF nT)),Ch.all (K.map (rowF nT))]
theorem Ztp {W w:World}{null:List Bool}{aH:Option Addr}{cH i:Nat}{K:List BK}{R:EP}{C17:VP}(s:St noB W w (tabB A1 A2 A3 A4 c1 c2 c3 c4 n2 n3 n4 nT N mN bb q st null aH cH K))(hT:nT<=65)(hi:i<=1000)(hK:K.length=i)
  (hgo:∀w' aH' cH' b,St noB W w' (tabB A1 A2 A3 A4 c1 c2 c3 c4 n2 n3 n4 nT N mN bb q st null aH' cH' (K++[(b,rowI nT i)]))->C17 (.int .i64 ((i:Int)+1)) w') :
  Zo.b22 R C17 (.pointer (some ⟨q,0,none⟩)) (.pointer (some ⟨bb,0,none⟩)) (.int .i64 i) w:=by
 have wi:=wS i (by omega);have y1:=(s.box 0 rfl).1.1;have s1:=s.lit 4 1 nT (Array.replicate nT (Value.bool false)) (by unfold maxLen;omega) (by simp);have e0:(Array.replicate nT (Value.bool false)).toList=Zaz (List.replicate nT false):=by simp[Zaz]
 rw[e0]at s1;have hmk:=Zg2 w nT (by unfold Zaf;omega);generalize w.alloc (.cells (Array.replicate nT (Value.bool false)) 4)=w1 at s1 hmk;generalize w.heap.size=o at s1 hmk;have y2:=(s1.box 0 rfl).1.1;have hb23:∀w2,St noB W w2 (tabB A1 A2 A3 A4 c1 c2 c3 c4 n2 n3 n4 nT N mN bb q st null aH cH K++[rowC 4 1 (some ⟨o,0,none⟩) nT nT (Zaz (rowI nT i))])->Zo.b23 R C17 (.pointer (some ⟨bb,0,none⟩)) (.int .i64 i) (.slice (some ⟨o,0,none⟩) nT nT) w2:=by
  intro w2 s2;have z2:=(s2.box 1 rfl).1;simp[Zw]at z2;unfold Zo.b23;simp -dsimp[go_sem,z2];refine s2.append1 3 rfl uHas iHas rfl (by decide) (news:=[.slice (some ⟨o,0,none⟩) nT nT]) rfl (by simp[Value.oneCell']) (by unfold maxLen;omega) (by unfold Zaf;omega) ?_;intro gH cap w4 s4;have s5:=s4.into 5 4 rfl rfl (by decide);have z5:=(s5.box 1 rfl).1;have f5:=(s5.box 1 rfl).2.1;simp[Zw]at z5;have s6:=s5.set 1 rfl 6 (.slice (some ⟨gH,0,none⟩) (K.length+1) cap);simp -dsimp[go_sem,z5,f5];unfold Zo.b20;simp -dsimp[go_sem,wi];refine hgo _ (some ⟨gH,0,none⟩) cap o ?_;have:=s6.take 5;unfold tabB;rw[Qq,Qu,Qu];exact this
 unfold Zo.b22;simp -dsimp[go_sem,y1,hmk,y2];refine Za (λ p1=>?_) (λ p1=>?_)<;>simp at p1
 ·obtain ⟨co,fo⟩:=Zdo s1 (k:=5) rfl (ms:=List.replicate nT false) (j:=i) (by simpa using p1);have s2:=Zfl s1 (k:=5) rfl (ms:=List.replicate nT false) i true;unfold Zo.b22_1;simp -dsimp[go_sem,p1,co,fo];refine hb23 _ ?_;have e:rowI nT i=(List.replicate nT false).set i true:=by unfold rowI;rw[if_pos p1]
  rw[e];exact s2
 ·refine hb23 _ ?_;have e:rowI nT i=List.replicate nT false:=by unfold rowI;rw[if_neg (by omega)]
  rw[e];exact s1
end
section
variable {A1 A2 A3 A4:Option Addr} {c1 c2 c3 c4 n2 n3 n4 nT N mN bb q mH cH:Nat} {st:Int}
theorem Zrb {α:Type}{l:List α}{j:Nat}{x d:α}(s:Nat)(h:s<l.length):(l.set j x).getD s d=if s=j then x else l.getD s d:=by
 by_cases e:s=j
 ·subst e;rw[if_pos rfl,Qc,Qn h];rfl
 ·rw[if_neg e,Qc,Qs (Ne.symm e),<-Qc]
theorem Zz9 {W w:World}{null:List Bool}{K:List BK}(s:St noB W w (tabB A1 A2 A3 A4 c1 c2 c3 c4 n2 n3 n4 nT N mN bb q st null (some ⟨mH,0,none⟩) cH K))(hN:null.length=N)(hK:∀x∈K,x.2.length=nT) :
  BgAt w bb [.slice A1 nT c1,.slice A2 n2 c2,.slice A3 n3 c3,.int .i64 st,.slice A4 n4 c4] nT mN N mH cH (λ s=>(K.getD s (0,[])).1) null (K.map (·.2)) where
 box:=by
  have:=(s.box 1 rfl).1;rw[hN,Qp];exact this
 nul i h:=(Zdo s (k:=2) rfl (ms:=null) (j:=i) h).1
 has i h:=by
  have hi:i<K.length:=by simpa using h
  obtain ⟨g,eg,cg,_⟩:=s.rowAt 3 rfl (j:=i) (by simpa using hi);injection eg with eg;injection eg with eg;subst eg;have ek:K.getD i (0,[])=K[i]:=by rw[Qc,Qb hi];rfl
  rw[ek];refine ⟨by rw[cg,Q8];rfl,λ t ht=>?_⟩;obtain ⟨F,s4,_⟩:=s.inAll' 4 rfl;have hkl:K[i].2.length=nT:=hK _ (Qj hi);have:=(Zdo s4 (k:=i) (m:=K[i].1) (N:=nT) (ms:=K[i].2) (by rw[Qh,Qb hi];rfl) (j:=t) (by omega)).1;rw[this];congr 2;rw[Qc (l:=K.map (·.2)),Qh,Qb hi]
  show _=K[i].2.getD t false
  rw[Qc,Qb (by omega)];rfl
theorem ZZ81 {W w:World}{null:List Bool}{K:List BK}{B j:Nat}{vr:Value}{row:List Int}(s:St noB W w (tabB A1 A2 A3 A4 c1 c2 c3 c4 n2 n3 n4 nT N mN bb q st null (some ⟨mH,0,none⟩) cH K))(hN:null.length=N)(hK:∀x∈K,x.2.length=nT)
  (hT:nT<=65) (hNN:N<=1000) (hrow:(Zq rInt).at1 W B vr row) (hB:B<=W.heap.size) (hx:∀x∈row,0<=x/\x<K.length/\x<nT+N) (hj:j<K.length) :
  Ct Tryz.prog Zh.id #[.pointer (some ⟨bb,0,none⟩),vr,valF nT K[j]] w λ v w'=>∃(fr:Bool) (r':List Bool),v = .bool fr/\r'.length=nT/\(∀u,u<nT->r'.getD u false=(K[j].2.getD u false || fstB nT null (K.map (·.2)) row u))/\(fr=false->r'=K[j].2)/\cntF r'+(if fr then 1 else 0)<=cntF K[j].2 /\
   St noB W w' (tabB A1 A2 A3 A4 c1 c2 c3 c4 n2 n3 n4 nT N mN bb q st null (some ⟨mH,0,none⟩) cH (K.set j (K[j].1,r'))):=by
 obtain ⟨F,sF,hback⟩:=s.inAll' 4 rfl;obtain ⟨_,hhc,_⟩:=s.rowSize 3 rfl;have hKj:K[j]?=some K[j]:=Qb hj;have hset:∀r',(K.map (rowF nT)).set j (rowF nT (K[j].1,r'))=(K.set j (K[j].1,r')).map (rowF nT):=λ r'=>by rw[Qap]
 have hval:∀r',(K.set j (K[j].1,r')).map (valF nT)=K.map (valF nT):=λ r'=>by
  rw[Qap];have h9:j<(K.map (valF nT)).length:=by simpa using hj
  have:=Qai h9;rw[Q8]at this;exact this
 have hup:∀w' r',St F w w' ((K.map (rowF nT)).set j (rowF nT (K[j].1,r')))->St noB W w' (tabB A1 A2 A3 A4 c1 c2 c3 c4 n2 n3 n4 nT N mN bb q st null (some ⟨mH,0,none⟩) cH (K.set j (K[j].1,r'))):=by
  intro w' r' h;rw[hset]at h;have:=hback w' _ h;unfold tabB;rw[hval,Qau];exact this
 have hlen:∀r':List Bool,r'.length=nT->∀x∈K.set j (K[j].1,r'),x.2.length=nT:=λ r' hr x hx=>by
  rcases Qcv hx with h|h
  ·exact hK x h
  ·rw[h];exact hr
 have hga:∀r':List Bool,(λ s=>((K.set j (K[j].1,r')).getD s (0,[])).1)=λ s=>(K.getD s (0,[])).1:=λ r'=>by
  funext s;by_cases hs:s<K.length
  ·rw[Zrb s hs];split
   ·next e=>subst e;rw[Qc,hKj];rfl
   ·rfl
  ·rw[Qc,Qc,Qx (by simpa using hs),Qx (by omega)]
 have hhs:∀r':List Bool,(K.set j (K[j].1,r')).map (·.2)=(K.map (·.2)).set j r':=λ r'=>by rw[Qap]
 refine Ct.mono (ZZ3 (L:=K.map (rowF nT)) (k:=j) (G:=F) (W:=w) (j:=j) (o:=K[j].1) (r0:=K[j].2) (bb:=bb) (mN:=mN) (cN:=N) (mH:=mH) (cH:=cH) (null:=null) (hs:=K.map (·.2)) (ga:=λ s=>(K.getD s (0,[])).1) (B:=B) (row:=row) (A1:=A1) (c1:=c1) (A2:=A2) (c2:=c2) (n2:=n2) (A3:=A3) (c3:=c3) (n3:=n3) (A4:=A4) (c4:=c4) (n4:=n4) (st:=st)
  (by rw[Qh,hKj];rfl) sF (λ w' r' h1 h2=>?_) (hK _ (Qj hj)) (λ h=>by rw[Q8]) (by omega) (by rw[Qp];exact hhc) hT (by omega) (λ x hx'=>by have:=hx x hx';rw[Qp];omega)) ?_
 ·have s2:=hup w' r' h2;have:=Zz9 s2 hN (hlen r' h1);rw[hga,hhs]at this;exact ⟨this,Rep.below hrow (s2.chg.below hB λ _ _=>id)⟩
 ·rintro v w' ⟨fr,r',h1,h2,h3,h4,h5,h6⟩;exact ⟨fr,r',h1,h2,h3,h4,h5,hup w' r' h6⟩
end
def RwOk (nT:Nat)(null:List Bool)(K:List BK)(p:Int×List Int×Int):Prop:=∀u,u<nT->fstB nT null (K.map (·.2)) p.2.1 u=true->((K.map (·.2)).getD p.1.toNat []).getD u false=true
structure Zvc (nT nS:Nat)(P:Prs)(K:List BK):Prop where
 len:K.length=nS
 row:∀x∈K,x.2.length=nT
 term:∀i:Nat,i<nT->i<nS->((K.map (·.2)).getD i []).getD i false=true
 snd:∀i u:Nat,((K.map (·.2)).getD i []).getD u false=true->Fst nT P (i:Int) u
theorem Zxd {w:World}{B:Nat}{vg:Value}{g:Gr}(hg:Zb7.atN w B vg g)(hB:B<=w.heap.size)(hcl:Zbn g) :
  Ct Tryz.prog Zo.id #[vg] w λ v w'=>∃A1 A2 A3 A4 c1 c2 c3 c4 bb mN mH cH ga null hs,vg = .agg (gQ A1 c1 A2 c2 A3 c3 A4 c4 g)/\v = .pointer (some ⟨bb,0,none⟩)/\Chg noB w w' /\
   null.length=g.nons.length/\hs.length=g.terms.length+g.nons.length/\hs.length<=cH/\Zo0 g.terms.length g.prods null hs/\Zm9 g.terms.length g.prods null hs/\(∀s u,¬u<g.terms.length->(hs.getD s []).getD u false=false) /\
   ∀w'',Chg noB w' w''->BgAt w'' bb (gU A1 c1 A2 c2 A3 c3 A4 c4 g) g.terms.length mN g.nons.length mH cH ga null hs:=by
 refine Zo.ct λ R hR=>?_;obtain ⟨A1,c1,A2,c2,A3,c3,A4,c4,rfl,⟨m1,m2,m3,m4⟩,hst,hc0,hgr⟩:=Zbg hg hB;have hr4:(Zq rPr).at1 w B (.slice A4 g.prods.length c4) g.prods:=by obtain ⟨_,_,_,_,_,_,_,_,e,_,_,_,_,h5,_⟩:=(Zcg hg).ex;injection e with e;injection e with e;simp at e;rw[e.2.2.2.1,e.2.2.2.2];exact h5
 have hT:=hcl.syms.t1;have hN:=hcl.syms.n1;have hn0:=hcl.syms.n0;have hPl:=hcl.prods.c1;obtain ⟨nT,hnT⟩:∃n,g.terms.length=n:=⟨_,rfl⟩;obtain ⟨N,hNe⟩:∃N,g.nons.length=N:=⟨_,rfl⟩;have s1:=(St.refl noB w).alloc (gQ A1 c1 A2 c2 A3 c3 A4 c4 g) 27;unfold Zo.run;have y1:=(hgr _ (Chg.refl _ _)).k;simp -dsimp[go_sem,y1];have hbl:Below B w (w.alloc (.cells (gQ A1 c1 A2 c2 A3 c3 A4 c4 g) 27)).drew:=s1.chg.drew.below hB λ _ _=>id;have hg1:=Zx hg hbl;have hB1:B<=(w.alloc (.cells (gQ A1 c1 A2 c2 A3 c3 A4 c4 g) 27)).drew.heap.size:=by have:=hbl.size;omega
 have s2:=s1.old (Chg.refl noB _).drew;clear y1 s1 hgr hc0;generalize (w.alloc (.cells (gQ A1 c1 A2 c2 A3 c3 A4 c4 g) 27)).drew=w1 at s2 hg1 hB1 |-;generalize w.heap.size=q at s2 |-;refine Zi (ZZ93 hg1 hB1 hcl) ?_;rintro _ w2 ⟨mN,null,rfl,hnl,sn,hnul,hsnul⟩;have s3:=s2.seq sn;have y3:=(s3.box 0 rfl).1;simp[Zw]at y3;have s4:=((s3.alloc #[.slice A1 g.terms.length c1,.slice A2 g.nons.length c2,.slice A3 g.levels.length c3,.int .i64 g.start,.slice A4 g.prods.length c4,.slice (some ⟨mN,0,none⟩) null.length null.length,.slice none 0 0] 217).nilRow 105 1).push (c:=Ch.all (([]:List BK).map (rowF g.terms.length))) ⟨λ _=>0,λ i h=>absurd rfl h,λ k c h=>by simp at h⟩;unfold Zo.b1_1;simp -dsimp[go_sem,y3,↓bBeg];generalize w2.alloc (.cells #[.slice A1 g.terms.length c1,.slice A2 g.nons.length c2,.slice A3 g.levels.length c3,.int .i64 g.start,.slice A4 g.prods.length c4,.slice (some ⟨mN,0,none⟩) null.length null.length,.slice none 0 0] 217)=w3 at s4 |-;generalize w2.heap.size=bb at s4 |-;rw[hnl]at s4;simp only[gQ,gU]at s4 hg;rw[hnT,hNe]at s4 hg;rw[hNe]at hnl;rw[hnT]at hnul hsnul hT;rw[hNe]at hN hn0
 let TB:Option Addr->Nat->List BK->List Ch:=λ aH cH K=>tabB A1 A2 A3 A4 c1 c2 c3 c4 N g.levels.length g.prods.length nT N mN bb q g.start null aH cH K
 have s5:St noB w w3 (TB none 0 []):=s4.pick [0,2,1,3,4] (by decide) rfl;clear s4 s3 s2 sn y3;unfold Zo.b15;refine Zo.l17_intro _ _ _ _ _ (λ y w'=>∃(i:Nat) (aH:Option Addr) (cH:Nat) (K:List BK),y = .int .i64 i/\i<=nT+N/\K.length=i/\K.map (·.2)=(List.range i).map (rowI nT)/\St noB w w' (TB aH cH K)) (λ y _=>nT+N-iv y)
  ⟨0,none,0,[],rfl,by omega,rfl,rfl,s5⟩ ?_
 rintro _ w4 ⟨i,aH,cH,K,rfl,hi,hKl,hKr,s6⟩ C hC;have y6:=(s6.box 0 rfl).1;simp[Zw]at y6;simp -dsimp[go_sem,y6];refine Zi (Zej (Zx hg (s6.chg.below hB λ _ _=>id)) (by have:=s6.chg.size;omega) (by omega)) ?_;rintro _ w5 ⟨rfl,hc5⟩;have s7:=s6.old hc5;clear s6 y6;rw[hnT,hNe];simp -dsimp[go_sem];refine Za (λ p1=>?_) (λ p1=>?_)<;>simp at p1
 ·refine Ztp s7 (by omega) (by omega) hKl λ w6 aH' cH' b s8=>?_;exact hC _ _ ⟨i+1,aH',cH',K++[(b,rowI nT i)],by simp,by omega,by simp[hKl],by rw[Qu,hKr,Qch,Qu];rfl,s8⟩ (by simp[iv];omega)
 have hie:i=nT+N:=by omega
 subst hie;have hK0:Zvc nT (nT+N) g.prods K:=by
  refine ⟨hKl,λ x hx=>?_,λ j hj hj2=>?_,λ j u hu=>?_⟩
  ·have:x.2∈K.map (·.2):=Qr.2 ⟨x,hx,rfl⟩;rw[hKr]at this;obtain ⟨a,_,e⟩:=Qr.1 this;rw[<-e];exact Zx3 nT a
  ·rw[hKr,Qc (l:=(List.range (nT+N)).map (rowI nT)),Qh,Qdf hj2]
   show (rowI nT j).getD j false=true
   unfold rowI;rw[if_pos hj,Qc,Qn (by simpa using hj)];rfl
  ·rw[hKr]at hu;by_cases hj:j<nT+N
   ·rw[Qc (l:=(List.range (nT+N)).map (rowI nT)),Qh,Qdf hj]at hu;change (rowI nT j).getD u false=true at hu;unfold rowI at hu;by_cases hjT:j<nT
    ·rw[if_pos hjT,Qc]at hu;by_cases e:j=u
     ·subst e;exact .term hjT
     ·rw[Qs e,Qa4]at hu;split at hu<;>simp at hu
    ·rw[if_neg hjT,Qc,Qa4]at hu;split at hu<;>simp at hu
   ·rw[Qc (l:=(List.range (nT+N)).map (rowI nT)),Qx (by simpa using hj)]at hu;simp at hu
 clear hKr;obtain ⟨mH,hmH⟩:∃m,aH=some ⟨m,0,none⟩:=by
  obtain ⟨gm,em,_⟩:=s7.rowAt 3 rfl (j:=0) (by rw[Qp];omega);exact ⟨gm,em⟩
 subst hmH;obtain ⟨_,hhc,_⟩:=s7.rowSize 3 rfl;clear hKl
 let J:Value->World->Nat->Prop:=λ y w' f=>∃(ag:Bool) (K:List BK),y = .bool ag/\Zvc nT (nT+N) g.prods K/\(ag=false->∀p∈g.prods,RwOk nT null K p)/\St noB w w' (TB (some ⟨mH,0,none⟩) cH K)/\f=2*cntK K+(if ag then 1 else 0)
 unfold Zo.b5;refine Zo.l7_intro _ _ _ _ _ (λ y w'=>∃f,J y w' f) (λ y w'=>muOf (J y) w') ⟨_,true,K,rfl,hK0,by simp,s7,rfl⟩ ?_;rintro y3 w6 hJ D hD;have hJm:=Zfy hJ;have hfin:∀y4 w4 f,J y4 w4 f->f<muOf (J y3) w6->D y4 w4:=λ y4 w4 f h1 h2=>hD _ _ ⟨f,h1⟩ (Qbd (Zfw h1) h2);obtain ⟨ag,K6,rfl,hK6,hag,s8,hf⟩:=hJm;rw[hf]at hfin;have hhc6:(K6.map (·.2)).length<=cH:=by rw[Qp,hK6.len,<-hK0.len];exact hhc
 clear hf hD hJ s7 hK0 hhc;have hout:∀K:List BK,Zvc nT (nT+N) g.prods K->∀u,¬u<nT->∀s,((K.map (·.2)).getD s []).getD u false=false:=by
  intro K hK u hu s;by_cases hs:s<K.length
  ·have e:(K.map (·.2)).getD s []=K[s].2:=by rw[Qc,Qh,Qb hs];rfl
   rw[e,Qc,Qx (by rw[hK.row _ (Qj hs)];omega)];rfl
  ·have e:(K.map (·.2)).getD s []=[]:=by rw[Qc,Qx (by simpa using hs)];rfl
   rw[e];simp
 cases ag with
 | false=>
  simp -dsimp[go_sem];unfold Zo.b4;refine hR _ _ ⟨A1,A2,A3,A4,c1,c2,c3,c4,bb,mN,mH,cH,λ s=>(K6.getD s (0,[])).1,null,K6.map (·.2),by rfl,rfl,s8.chg,by rw[hNe];exact hnl,by rw[Qp,hK6.len,hnT,hNe],hhc6,⟨λ p hp=>by rw[hnT];exact hnul p hp,λ i hi=>hK6.term i (by omega) (by omega),λ p hp u hu=>?_⟩,by rw[hnT];exact ⟨hsnul,hK6.snd⟩,λ s u hu=>hout K6 hK6 u (by omega) s,λ w'' hc=>?_⟩
  ·rw[hnT]at hu;by_cases h:u<nT
   ·exact hag rfl p hp u h hu
   ·rw[Zl3 (hout K6 hK6 u h)]at hu;cases hu
  ·simp only[gU];rw[hnT,hNe];exact Zz9 (s8.old hc) hnl hK6.row
 | true=>
 simp -dsimp[go_sem];unfold Zo.b10;refine Zo.l12_intro _ _ _ _ _ _ _ (λ x y w'=>∃(ag:Bool) (i:Nat) (K:List BK),x = .bool ag/\y = .int .i64 i/\i<=g.prods.length/\Zvc nT (nT+N) g.prods K/\(ag=false->∀p∈g.prods.take i,RwOk nT null K p)/\St noB w w' (TB (some ⟨mH,0,none⟩) cH K)/\cntK K+(if ag then 1 else 0)<=cntK K6) (λ _ y _=>g.prods.length-iv y)
  ⟨false,0,K6,rfl,rfl,by omega,hK6,by simp,s8,by simp⟩ ?_
 rintro _ _ w7 ⟨ag,i,K7,rfl,rfl,hi7,hK7,hcl7,s9,hcnt⟩ E hE;have wi:=wS i (by omega);have y9:=(s9.box 0 rfl).1;have z9:=(s9.box 1 rfl).1;simp[Zw]at y9 z9;simp -dsimp[go_sem,y9];refine Za (λ p2=>?_) (λ p2=>?_)<;>simp at p2
 ·obtain ⟨b,o,vr,rfl,hb,x1,x2,x3,hr,_⟩:=Zcc hr4 p2;have x1:=s9.chg.at x1 id;have x2:=s9.chg.at x2 id;have hx:=hcl.syms' g.prods[i] (Qj p2);rw[hnT,hNe]at hx;have et:g.prods.take (i+1)=g.prods.take i++[g.prods[i]]:=Qd p2;obtain ⟨j,hj⟩:∃j:Nat,g.prods[i].1=j:=⟨g.prods[i].1.toNat,by omega⟩;have hjl:j<K7.length:=by rw[hK7.len];omega
  rw[hj]at x1;obtain ⟨gm,em,cm,_⟩:=s9.rowAt 3 rfl (j:=j) (by rw[Qp];exact hjl);injection em with em;injection em with em;subst em;rw[Q8]at cm;have hvk:valF nT K7[j] = .slice (some ⟨K7[j].1,0,none⟩) nT nT:=rfl;rw[hvk]at cm;obtain ⟨Ar,cr,rfl,hrl,hrm,_⟩:=Zz hr;have s10:=s9.old ((Chg.refl noB w7).drew);unfold Zo.b13_1;simp -dsimp[go_sem,y9,z9,p2,x1,x2,hjl,cm];refine Zi (ZZ81 s10 hnl hK7.row (by omega) (by omega) hr hB (λ x hx'=>by have:=hx.2 x hx';rw[hK7.len];omega) hjl) ?_;rintro _ w8 ⟨fr,r',rfl,hrl',hru,hfr,hcf,s11⟩;have hcs:cntK (K7.set j (K7[j].1,r'))+cntF K7[j].2=cntK K7+cntF r':=ZZ21 (f:=λ x:BK=>cntF x.2) (Qb hjl);have hgd:(K7.map (·.2)).getD j []=K7[j].2:=by rw[Qc,Qh,Qb hjl];rfl
  have hK8:Zvc nT (nT+N) g.prods (K7.set j (K7[j].1,r')):=by
   refine ⟨by rw[Qau];exact hK7.len,λ x hx'=>?_,λ a ha ha2=>?_,λ a u hau=>?_⟩
   ·rcases Qcv hx' with h|h
    ·exact hK7.row x h
    ·rw[h];exact hrl'
   ·have h1:=hK7.term a ha ha2;rw[Qap,Zrb a (by rw[Qp,hK7.len];exact ha2)];split
    ·next e=>subst e;rw[hgd]at h1;rw[hru a ha,h1];rfl
    ·exact h1
   ·rw[Qap]at hau;by_cases e:a=j
    ·subst e;rw[Qc (l:=(K7.map (·.2)).set a _),Qn (by simpa using hjl)]at hau;change r'.getD u false=true at hau;have hul:u<nT:=by
      refine Qv λ h=>?_;rw[Qc,Qx (by rw[hrl'];omega)]at hau;simp at hau
     rw[hru u hul,Qbl]at hau;rcases hau with h1|h1
     ·refine hK7.snd a u ?_;rw[hgd];exact h1
     ·obtain ⟨α,X,β,he,hn,hf⟩:=Zl8 hsnul hK7.snd (λ s hs=>by have:=(hx.2 s hs).1;omega) u h1;have e1:lft g.prods i=g.prods[i].1:=by unfold lft;rw[Qc,Qb p2];rfl
      have e2:rgt g.prods i=g.prods[i].2.1:=by unfold rgt;rw[Qc,Qb p2];rfl
      have:=Fst.non p2 (by rw[e2];exact he) hn hf;rw[e1,hj]at this;exact this
    ·rw[Qc (l:=(K7.map (·.2)).set j _),Qs (Ne.symm e),<-Qc]at hau;exact hK7.snd a u hau
  have hsame:fr=false->K7.set j (K7[j].1,r')=K7:=λ h=>by rw[hfr h];exact Qai hjl
  have hfin2:∀ag':Bool,(ag'=(ag || fr))->Zo.b14 R D E (.bool ag') (.int .i64 i) w8:=by
   intro ag' e;unfold Zo.b14;simp -dsimp[go_sem,wi];refine hE _ _ _ ⟨ag',i+1,K7.set j (K7[j].1,r'),rfl,by simp,by omega,hK8,λ h=>?_,s11,?_⟩ (by simp[iv];omega)
   ·rw[e,Bool.or_eq_false_iff]at h;rw[hsame h.2,et];intro p hp;rcases Qk.1 hp with hp|hp
    ·exact hcl7 h.1 p hp
    ·simp at hp;subst hp;intro u hu hf;have:=hru u hu;rw[hfr h.2,hf,Bool.or_true]at this;rw[hj,Qax,hgd];exact this
   ·rw[e];cases ag<;>cases fr<;>simp at hcnt hcf |-<;>omega
  cases ag with
  | true=>simp -dsimp[go_sem];exact hfin2 true rfl
  | false=>simp -dsimp[go_sem];exact hfin2 fr (by simp)
 ·have hie:i=g.prods.length:=by omega
  subst hie;rw[Qm]at hcl7;refine hfin _ _ _ ⟨ag,K7,rfl,hK7,hcl7,s9,rfl⟩ ?_;cases ag<;>simp at hcnt |-<;>omega
end Go.Proofs.YtjibcckpehdbhaaGreatDoor
