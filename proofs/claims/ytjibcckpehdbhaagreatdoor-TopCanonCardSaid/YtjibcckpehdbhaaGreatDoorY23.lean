/-
  Texts of this claim: Lk6, LkP, Mg3, Lk7, Lk8, Tq2, Tq3, Tq4, Tq5, Tq6.
-/
import Derived.Test.YtjibcckpehdbhaaGreatDoorY22
import Derived.Test.YtjibcckpehdbhaaGreatDoorY08
import Derived.Test.YtjibcckpehdbhaaGreatDoorY21
import Derived.Test.YtjibcckpehdbhaaGreatDoorY04
import Derived.Test.YtjibcckpehdbhaaGreatDoorY19
set_option maxHeartbeats 1000000
set_option linter.unusedSimpArgs false
set_option linter.unusedVariables false
set_option maxRecDepth 100000
namespace Go.Proofs.YtjibcckpehdbhaaGreatDoor
open Go.Px Go.Px.Scan Go.Px.Cn Go.RowKit
attribute [-go_sem] Builtin.append_ Zt.b3 Zt.b9 Zt.b13_1 Zt.b13 Zt.b17_1 Zt.b14 Zt.b11 Zt.b4 Zt.b1_1 Zt.b1_2 Zt.b1_3
theorem uLook:Tryz.prog.underlying 28=some (.slice 79):=Tryz.underlying28
theorem iLook:(Tryz.prog.info? 79).map (λ i=>(i.zero,i.size,i.bytes))=some (some (.agg #[.int .i64 0,.int .i64 0,.slice none 0 0]),3,40):=by kernel_rfl
theorem bLook (x y:Int)(A:Option Addr)(n c:Nat)(w:World):(Instr.build 79 #[(0,.int .i64 x),(1,.int .i64 y),(2,.slice A n c)]).run Tryz.prog w = .ok (.agg #[.int .i64 x,.int .i64 y,.slice A n c]) w:=by simp[go_sem]
attribute [go_sem ↓] bLook
abbrev LRow:=Nat×Nat×Option Addr×Nat×List Nat
def lkV (x:LRow):List Value:=[.int .i64 (x.1:Nat),.int .i64 (x.2.1:Nat),.slice x.2.2.1 x.2.2.2.2.length x.2.2.2.1]
def lkC (x:LRow):Ch:=rowC 3 1 x.2.2.1 x.2.2.2.2.length x.2.2.2.1 (nats x.2.2.2.2)
theorem Zqj (ws:List Nat):(memb ws).Pairwise (· < ·):=by
 unfold memb;exact Qct _ Qb9
end Go.Proofs.YtjibcckpehdbhaaGreatDoor
namespace Go.Px.Cn
open Go.Px Go.Px.Scan Go.Proofs.YtjibcckpehdbhaaGreatDoor
theorem Rq.head {Q:Nat->Int->Prop}{u v t:Nat}(h:Q u (v:Int))(h2:Rq Q v t):Rq Q u t:=by
 induction h2 with
 | refl=>exact .step (.refl _) h
 | step _ h3 ih=>exact .step ih h3
theorem Zln {g:Gr}(hcl:Zbn g){p:Nat}(hp:p<g.prods.length):(g.terms.length:Int)<=lft g.prods p:=by
 unfold lft;rw[Qc,Qb hp]
 show (g.terms.length:Int)<=(g.prods[p]).1
 obtain ⟨z,hz⟩:∃z,g.prods[p]=z:=⟨_,rfl⟩;have hm:z∈g.prods:=by rw[<-hz];exact Qj hp
 rw[hz];have ha:=hcl.added;have hd:=hcl.prods.each
 cases hq:g.prods with
 | nil=>rw[hq]at ha;cases ha
 | cons a b=>
  rw[hq]at hd ha hm;rcases Qaa.1 hm with h|h
  ·injection ha with ha;rw[h,ha];exact Qdu _
  ·have:=(hd _ (by simpa using h)).l0;omega
theorem ZZ172 {g:Gr}(hcl:Zbn g){s:Int}(h:Nul g.prods s):(g.terms.length:Int)<=s:=by
 cases h with
 | mk hp _=>exact Zln hcl hp
theorem Zy8 {g:Gr}(hcl:Zbn g):aft g.prods (0,0)=some g.start:=by
 have ha:=hcl.added;unfold aft rgt
 cases hq:g.prods with
 | nil=>rw[hq]at ha;cases ha
 | cons a b=>rw[hq]at ha;injection ha with ha;subst ha;rfl
section
variable {g:Gr} {ks:List (List It)} {ess:List (List (Int×Nat))} {T:List (Nat×Int)}
theorem AutP.idx (h:AutP g ks ess)(hT:trL g.terms.length ess=T){q:Nat}{A:Int}(h1:(g.terms.length:Int)<=A)(h2:Tr g.prods ks q A):∃i:Nat,T[i]?=some (q,A):=by
 rw[<-hT];exact Qo.1 (h.mem_trL.2 ⟨h1,h2⟩)
theorem AutP.tr_at (h:AutP g ks ess)(hT:trL g.terms.length ess=T){i q:Nat}{A:Int}(hi:T[i]?=some (q,A)):(g.terms.length:Int)<=A/\Tr g.prods ks q A:=by
 rw[<-hT]at hi;exact h.mem_trL.1 (Qe hi)
theorem ZZ5 (h:AutP g ks ess)(hT:trL g.terms.length ess=T){i q t:Nat}{A:Int}(hi:T[i]?=some (q,A)):SoQ (DrQ g.terms.length g.start g.prods ks T) (RdQ g.prods ks T) i (t:Int)↔Rd g.terms.length g.prods ks q A t:=by
 constructor
 ·rintro ⟨u,h1,q',A',h2,h3⟩;have base:Rd g.terms.length g.prods ks q' A' t:=by
   rcases h3 with ⟨rfl,rfl,h4⟩|⟨r,h4,h5,h6⟩
   ·obtain rfl:t=0:=by omega
    exact .fin (Zy8 h.cl)
   ·exact .dr h4 (by omega) h6
  clear h3;have:∀q1 A1,T[u]?=some (q1,A1)->Rd g.terms.length g.prods ks q1 A1 t->Rd g.terms.length g.prods ks q A t:=by
   clear base h2
   induction h1 with
   | refl=>intro q1 A1 e hr;rw[hi]at e;injection e with e;injection e with e1 e2;subst e1 e2;exact hr
   | step _ hq ih=>
    intro q1 A1 e hr;obtain ⟨q2,r,j,A2,C,k1,k2,k3,k4,k5⟩:=hq;have:=Int.ofNat.inj k5;subst this;rw[k4]at e;injection e with e;injection e with e1 e2;subst e1 e2;exact ih _ _ k1 (.rd k2 k3 (h.tr_at hT k4).2 hr)
  exact this _ _ h2 base
 ·intro hr
  induction hr generalizing i with
  | @dr q r A t h1 h2 h3=>exact ⟨i,.refl _,q,A,hi,Or.inr ⟨r,h1,by omega,h3⟩⟩
  | @fin A h1=>
   rw[Zy8 h.cl]at h1;injection h1 with h1;subst h1;exact ⟨i,.refl _,0,_,hi,Or.inl ⟨rfl,rfl,rfl⟩⟩
  | @rd q r A C t h1 h2 h3 h4 ih=>
   obtain ⟨j,hj⟩:=h.idx hT (ZZ172 h.cl h2) h3;obtain ⟨u,k1,k2⟩:=ih hj;exact ⟨u,.head ⟨q,r,j,A,C,hi,h1,h2,hj,rfl⟩ k1,k2⟩
theorem Zt5 (h:AutP g ks ess)(hT:trL g.terms.length ess=T){i q t:Nat}{A:Int}(hi:T[i]?=some (q,A)):SoQ (SoQ (DrQ g.terms.length g.start g.prods ks T) (RdQ g.prods ks T)) (IncQ g.prods ks T) i (t:Int)↔FlR g.terms.length g.prods ks q A t:=by
 constructor
 ·rintro ⟨u,h1,h2⟩;obtain ⟨q',A',hu⟩:∃q' A',T[u]?=some (q',A'):=by
   obtain ⟨v,k1,q',A',k2,k9⟩:=id h2;have:u<T.length:=by
    clear h2 h1 k9
    induction k1 generalizing q' A' with
    | refl=>exact (Qa.1 k2).1
    | @step v t h3 h4 ih=>
     obtain ⟨q2,r,j,A2,C,k1,_⟩:=h4;exact ih _ _ k1
   exact ⟨_,_,Qb this⟩
  have base:FlR g.terms.length g.prods ks q' A' t := .rd ((ZZ5 h hT hu).1 h2);clear h2;have:∀q1 A1,T[u]?=some (q1,A1)->FlR g.terms.length g.prods ks q1 A1 t->FlR g.terms.length g.prods ks q A t:=by
   clear base hu
   induction h1 with
   | refl=>intro q1 A1 e hr;rw[hi]at e;injection e with e;injection e with e1 e2;subst e1 e2;exact hr
   | step _ hq ih=>
    intro q1 A1 e hr;obtain ⟨i',p,k,q0,k1,k2,k3,⟨q2,B,m1,m2,m3,m4⟩,k5⟩:=hq;have:=Int.ofNat.inj k5;subst this;rw[k1]at e;injection e with e;injection e with e1 e2;subst e1 e2;obtain ⟨n1,n2⟩:=Qa.1 m1;refine ih _ _ m3 (.inc (β:=(rgt g.prods p).take k) (γ:=(rgt g.prods p).drop (k+1)) k2 k3 ?_ m4 m2 (h.tr_at hT k1).2 hr);rw[<-n2,List.getElem_cons_drop,Qag]
  exact this _ _ hu base
 ·intro hr
  induction hr generalizing i with
  | rd hr=>exact ⟨i,.refl _,(ZZ5 h hT hi).2 hr⟩
  | @inc p q q0 β γ A t h1 h2 h3 h4 h5 h6 _ ih=>
   obtain ⟨j,hj⟩:=h.idx hT (Zln h.cl h2) h6;obtain ⟨u,k1,k2⟩:=ih hj;refine ⟨u,.head ⟨j,p,β.length,q0,hj,h1,h2,⟨q,A,?_,?_,hi,?_⟩,rfl⟩ k1,k2⟩
   ·rw[h3];simp
   ·rw[h3];simpa using h5
   ·rw[h3,show β++A::γ=(β++[A])++γ by simp,List.drop_left' (by simp)];exact h4
theorem Zug (f:Nat->Nat->List Nat)(nP n:Nat):(Ze3 f nP n).Pairwise λ a b=>a.1<b.1\/a.1=b.1/\a.2.1<b.2.1:=by
 have hrow:∀q x,x∈Zft f q nP->x.1=q:=λ q x hx=>by
  unfold Zft at hx;obtain ⟨p,_,h2⟩:=Qbh.1 hx;split at h2
  ·cases h2
  ·rw[Qg]at h2;rw[h2]
 unfold Ze3;rw[List.pairwise_flatMap];refine ⟨λ q _=>?_,?_⟩
 ·unfold Zft;rw[List.pairwise_flatMap];refine ⟨λ p _=>by split<;>simp,?_⟩;refine Qb9.imp λ {a b} hab x hx y hy=>?_;split at hx
  ·cases hx
  split at hy
  ·cases hy
  rw[Qg]at hx hy;subst hx hy;exact Or.inr ⟨rfl,hab⟩
 ·refine Qb9.imp λ {a b} hab x hx y hy=>?_;rw[hrow _ _ hx,hrow _ _ hy];exact Or.inl hab
def LaT (g:Gr)(ks:List (List It))(q p t:Nat):Prop:=∃q0,Wk g.prods ks q0 (rgt g.prods p) q/\Tr g.prods ks q0 (lft g.prods p)/\FlR g.terms.length g.prods ks q0 (lft g.prods p) t
theorem Zyr (h:AutP g ks ess)(hT:trL g.terms.length ess=T){f:Nat->Nat->List Nat}(hf:∀q p,q<65536->p<65536->∀y,y∈f q p↔LbQ g.prods ks T q p y){l:List (Nat×Nat×List Nat)}(hl:l.map (λ x=>(x.1,x.2.1))=(Ze3 f g.prods.length ks.length).map λ x=>(x.1,x.2.1))
  (ht:∀x∈l,x.2.2.Pairwise (· < ·)/\∀t,t∈x.2.2↔∃y∈f x.1 x.2.1,SoQ (SoQ (DrQ g.terms.length g.start g.prods ks T) (RdQ g.prods ks T)) (IncQ g.prods ks T) y (t:Int)) :
  LkOk g.prods ks (LaT g ks) l:=by
 have hau:=h.au;have hkl:=h.len;have hpl:=h.cl.prods.c1;have hmem:∀q p,(∃ts,(q,p,ts)∈l)↔q<ks.length/\p<g.prods.length/\f q p≠[]:=λ q p=>by
  have:(∃ts,(q,p,ts)∈l)↔(q,p)∈l.map (λ x=>(x.1,x.2.1)):=by
   rw[Qr];exact ⟨λ ⟨ts,h⟩=>⟨_,h,rfl⟩,λ ⟨⟨a,b,c⟩,h1,h2⟩=>⟨c,by injection h2 with h3 h4;subst h3 h4;exact h1⟩⟩
  rw[this,hl,Qr];constructor
  ·rintro ⟨x,hx,e⟩;injection e with e1 e2;obtain ⟨a1,a2,a3,a4⟩:=Zf7.1 hx;rw[<-e1,<-e2];exact ⟨a1,a2,by rw[<-a3];exact a4⟩
  ·rintro ⟨a1,a2,a3⟩;exact ⟨(q,p,f q p),Zf7.2 ⟨a1,a2,rfl,a3⟩,rfl⟩
 refine ⟨?_,λ q p=>?_,λ x hx=>(ht x hx).1,λ x hx t=>?_⟩
 ·have:=Zug f g.prods.length ks.length;rw[<-Qbk (f:=λ x:Nat×Nat×List Nat=>(x.1,x.2.1)) (R:=λ a b=>a.1<b.1\/a.1=b.1/\a.2<b.2)]at this |-;rw[hl];exact this
 ·rw[hmem];constructor
  ·rintro ⟨h1,h2,h3⟩;obtain ⟨y,hy⟩:=Qbv _ h3;obtain ⟨q0,k1,k2,k3,k4⟩:=(hf q p (by omega) (by omega) y).1 hy;refine ⟨k2,k3,?_⟩;obtain ⟨q',w1,w2⟩:=hau.along (hau.cl k3 (h.tr_at hT k1).2) (rgt g.prods p).length (Ql _);rw[Qm]at w1;rw[hau.wuniq k4 w1];exact w2
  ·rintro ⟨h1,h2,h3⟩;obtain ⟨q0,w1,w2,w3,_⟩:=hau.begun h1 h3;rw[Qm]at w1;obtain ⟨y,hy⟩:=h.idx hT (Zln h.cl h2) w3;have hq:q<ks.length:=by
    obtain ⟨l,hl,_⟩:=h3;exact (Qa.1 hl).1
   refine ⟨hq,h2,λ e=>?_⟩;have:=(hf q p (by omega) (by omega) y).2 ⟨q0,hy,h1,h2,w1⟩;rw[e]at this;cases this
 ·obtain ⟨q,p,ts⟩:=x;obtain ⟨h1,h2,_⟩:=(hmem q p).1 ⟨ts,hx⟩;rw[(ht _ hx).2]
  show (∃y∈f q p,_)↔_
  constructor
  ·rintro ⟨y,hy,h3⟩;obtain ⟨q0,k1,k2,k3,k4⟩:=(hf q p (by omega) (by omega) y).1 hy;exact ⟨q0,k4,(h.tr_at hT k1).2,(Zt5 h hT k1).1 h3⟩
  ·rintro ⟨q0,w1,w2,w3⟩;obtain ⟨y,hy⟩:=h.idx hT (Zln h.cl h2) w2;have hp0:0<p:=by
    refine Nat.pos_of_ne_zero λ e=>?_;subst e;obtain ⟨x,_,hx⟩:=w2;exact hau.noS x _ hx rfl
   exact ⟨y,(hf q p (by omega) (by omega) y).2 ⟨q0,hy,hp0,h2,w1⟩,(Zt5 h hT hy).2 w3⟩
end
structure Cl9 (P:Prs)(l0 l1 l:List It)(ms:List Bool)(i:Nat):Prop where
 snd:∀x∈l,Cl0 P (·∈l0) x
 bas:∀x∈l0,x∈l
 fla:∀s:Nat,ms.getD s false=true->∀p,p<P.length->lft P p=s->(p,0)∈l
 don:∀j,j<i->∀x,l[j]?=some x->∀s,aft P x=some s->∀p,p<P.length->lft P p=s->(p,0)∈l
 val:Val P l
 nd:∃ps:List Nat,ps.Nodup/\(∀p∈ps,p<P.length)/\l=l1++ps.map λ p=>(p,0)
section
variable {P:Prs} {l0 l1 l:List It} {ms:List Bool} {i:Nat}
theorem nodup_le {ps:List Nat}{n:Nat}(h:ps.Nodup)(h2:∀p∈ps,p<n):ps.length<=n:=by
 have:=h.length_le_of_subset (l₂:=List.range n) λ x hx=>Qbg.2 (h2 x hx);simpa using this
theorem Cl9.len (h:Cl9 P l0 l1 l ms i):l.length<=l1.length+P.length:=by
 obtain ⟨ps,h1,h2,rfl⟩:=h.nd;have:=nodup_le h1 h2;simp;omega
theorem Cl9.add (h:Cl9 P l0 l1 l ms i){p:Nat}(hp:p<P.length)(hn:(p,0)∉l)(hc:Cl0 P (·∈l0) (p,0))(hi:i<=l.length):Cl9 P l0 l1 (l++[(p,0)]) ms i:=by
 refine ⟨λ x hx=>?_,λ x hx=>Q0 _ (h.bas x hx),λ s hs q hq hl=>Q0 _ (h.fla s hs q hq hl),λ j hj x hx s hs q hq hl=>Q0 _ (h.don j hj x ?_ s hs q hq hl),λ x hx=>?_,?_⟩
 ·rcases Qk.1 hx with hx|hx
  ·exact h.snd x hx
  ·rw[Qg]at hx;subst hx;exact hc
 ·rwa [Qf (by omega)]at hx
 ·rcases Qk.1 hx with hx|hx
  ·exact h.val x hx
  ·rw[Qg]at hx;subst hx;exact ⟨hp,Qy _⟩
 ·obtain ⟨ps,h1,h2,rfl⟩:=h.nd;refine ⟨ps++[p],Qak.2 ⟨h1,by simp,λ a ha b hb=>?_⟩,λ q hq=>?_,by simp⟩
  ·rw[Qg]at hb;subst hb;intro e;subst e;exact hn (by simp[ha])
  ·rcases Qk.1 hq with hq|hq
   ·exact h2 q hq
   ·rw[Qg]at hq;subst hq;exact hp
theorem Cl9.next (h:Cl9 P l0 l1 l ms i)(hd:∀x,l[i]?=some x->∀s,aft P x=some s->∀p,p<P.length->lft P p=s->(p,0)∈l):Cl9 P l0 l1 l ms (i+1):=by
 refine {h with don:=λ j hj=>?_ };by_cases e:j=i
 ·subst e;exact hd
 ·exact h.don j (by omega)
theorem Cl9.mark (h:Cl9 P l0 l1 l ms i){s:Nat}(hd:∀p,p<P.length->lft P p=s->(p,0)∈l):Cl9 P l0 l1 l (ms.set s true) i:=by
 refine {h with fla:=λ j hj=>?_ };by_cases e:s=j
 ·subst e;exact hd
 ·rw[Qc,Qs e,<-Qc]at hj;exact h.fla j hj
theorem Cl9.all (h:Cl9 P l0 l1 l ms i)(hi:l.length<=i)(x:It):x∈l↔Cl0 P (·∈l0) x:=by
 refine ⟨h.snd x,λ hx=>?_⟩
 induction hx with
 | base hx=>exact h.bas _ hx
 | @step y s q _ h2 h3 h4 ih=>
  obtain ⟨j,hj⟩:=Qo.1 ih;exact h.don j (by have:=(Qa.1 hj).1;omega) y hj s h2 q h3 h4
theorem Ztb {x:It}{s:Int}(h:aft P x=some s):aftI P x=s:=by unfold aftI;rw[h];rfl
end
end Go.Px.Cn
namespace Go.Proofs.YtjibcckpehdbhaaGreatDoor
open Go.Px Go.Px.Scan Go.Px.Cn Go.RowKit
attribute [-go_sem] Builtin.append_ Zu.b3 Zu.b9 Zu.b17 Zu.b16_1 Zu.b16_2 Zu.b16_3 Zu.b13 Zu.b19 Zu.b18_1 Zu.b18 Zu.b11 Zu.b4 Zu.b1_1
section
variable {W:World} {A1 A2 A3 A4:Option Addr} {c1 c2 c3 c4:Nat} {g:Gr} {B q fb N:Nat}
def c9L (A:Option Addr)(c:Nat)(l:List It)(fb N:Nat)(ms:List Bool):List Ch:=[rowC 89 2 A l.length c (l.flatMap itV),rowC 4 1 (some ⟨fb,0,none⟩) N N (Zaz ms)]
theorem Zzf {w:World}{A:Option Addr}{c i s:Nat}{l0 l1 l:List It}{ms ms0:List Bool}{R:EP}{C6:Value->VP}(hgr:∀w',Chg noB W w'->GRd w' B q g A1 c1 A2 c2 A3 c3 A4 c4)(hpl:g.prods.length<=97)(hl1:l1.length<=500000)
  (hI:Cl9 g.prods l0 l1 l ms0 i) (hi:i<l.length) (hx:∃x,l[i]?=some x/\aft g.prods x=some (s:Int))
  (st:St noB W w (c9L A c l fb N ms))
  (hgo:∀w' A' c' l',Cl9 g.prods l0 l1 l' ms0 i->i<l'.length->l'[i]?=l[i]?->(∀p,p<g.prods.length->lft g.prods p=s->(p,0)∈l')->St noB W w' (c9L A' c' l' fb N ms)->Zu.b9 R C6 (.slice A' l'.length c') (.int .i64 i) w') :
  Zu.l15 R C6 (.pointer (some ⟨q,0,none⟩)) (.slice A l.length c) (.int .i64 i) (.int .i64 s) (.int .i64 0) w:=by
 refine Zu.l15_intro _ _ _ _ _ _ _ _ (λ x y w'=>∃(p:Nat) (A':Option Addr) (c':Nat) (l':List It),x = .slice A' l'.length c'/\y = .int .i64 p/\p<=g.prods.length/\Cl9 g.prods l0 l1 l' ms0 i/\i<l'.length/\l'[i]?=l[i]?/\(∀p',p'<p->lft g.prods p'=s->(p',0)∈l')/\St noB W w' (c9L A' c' l' fb N ms)) (λ _ y _=>g.prods.length-iv y)
  ⟨0,A,c,l,rfl,rfl,Qy _,hI,hi,rfl,λ p' h=>by omega,st⟩ ?_
 rintro _ _ w1 ⟨p,A',c',l',rfl,rfl,hp,hI1,hi1,hil,hdn,s1⟩ C hC;have hll:=hI1.len;have G1:=hgr w1 s1.chg;have y1:=G1.k;simp -dsimp[go_sem,y1];refine Za (λ p1=>?_) (λ p1=>?_)<;>simp at p1
 ·have wp:=wS p (by omega);obtain ⟨b,o,v,rfl,_,k1,_,_,_,_,_⟩:=Zcc G1.r4 p1;have hlp:lft g.prods p=g.prods[p].1:=by unfold lft;rw[Qc,Qb p1];rfl
  have s2:=s1.alloc #[.int .i64 p,.int .i64 0] 89;have G2:=hgr _ s2.chg;have y2:=G2.k;obtain ⟨b',o',v',e9,_,k2,_,_,_,_,_⟩:=Zcc G2.r4 p1;injection e9 with e9;injection e9 with e9 e10 _;subst e9 e10;have up:∀w' A2 c2 l2,Cl9 g.prods l0 l1 l2 ms0 i->i<l2.length->l2[i]?=l[i]?->(∀p',p'<p+1->lft g.prods p'=s->(p',0)∈l2)->St noB W w' (c9L A2 c2 l2 fb N ms)->Zu.b17 R C6 C (.slice A2 l2.length c2) (.int .i64 p) w':=by
   intro w' A2 c2 l2 h1 h2 h3 h4 h5;unfold Zu.b17;simp -dsimp[go_sem,wp];exact hC _ _ _ ⟨p+1,A2,c2,l2,rfl,by simp,by omega,h1,h2,h3,h4,h5⟩ (by simp[iv];omega)
  unfold Zu.b16_3;simp -dsimp[go_sem,y2,p1,k2];have s2:St noB W (w1.alloc (.cells #[.int .i64 p,.int .i64 0] 89)) [rowC 89 2 A' l'.length c' (l'.flatMap itV),rowC 4 1 (some ⟨fb,0,none⟩) N N (Zaz ms),boxC w1.heap.size 89 [.int .i64 p,.int .i64 0]]:=s2;clear y2 k2 G2;generalize w1.alloc (.cells #[.int .i64 p,.int .i64 0] 89)=w2 at s2 |-;generalize w1.heap.size=xb at s2 |-;refine Za (λ p2=>?_) (λ p2=>?_)<;>simp at p2
  ·refine up w2 A' c' l' hI1 hi1 hil (λ p' h h2=>?_) (s2.take 2);by_cases e:p'=p
   ·subst e;exact absurd (hlp.symm.trans h2) p2
   ·exact hdn p' (by omega) h2
  ·have y3:=(s2.box 2 rfl).1;simp[Zw]at y3;have hls:lft g.prods p=(s:Int):=hlp.trans p2;unfold Zu.b16_2;simp -dsimp[go_sem,y3];refine Zi (ZZ18 (Zhr s2 0 rfl rfl) (Ql _) (by omega) (p,0)) ?_;rintro _ w3 ⟨⟨hb,rfl,hhb⟩,hc3⟩;have s3:=s2.old hc3
   cases hb with
   | true=>
    simp -dsimp[go_sem];refine up w3 A' c' l' hI1 hi1 hil (λ p' h h2=>?_) (s3.take 2);by_cases e:p'=p
    ·subst e;exact hhb.1 rfl
    ·exact hdn p' (by omega) h2
   | false=>
    have hnm:(p,0)∉l':=λ h=>by have:=hhb.2 h;cases this
    have y4:=(s3.box 2 rfl).1;simp[Zw]at y4;simp -dsimp[go_sem];unfold Zu.b16_1;simp -dsimp[go_sem,y4];refine s3.append1 0 rfl Zhk Zne rfl (by decide) (news:=itV (p,0)) rfl Zrl (by unfold maxLen;omega) (by unfold Zaf;omega) ?_;intro gA cap w4 s4;have e3:(l'++[((p,0):It)]).length=l'.length+1:=by simp
    have s5:St noB W w4 (c9L (some ⟨gA,0,none⟩) cap (l'++[(p,0)]) fb N ms):=by
     unfold c9L;rw[e3,Qab];exact s4.take 2
    have hcl:Cl0 g.prods (·∈l0) (p,0):=by
     obtain ⟨x,hx1,hx2⟩:=hx;rw[<-hil]at hx1;exact .step (hI1.snd x (Qe hx1)) hx2 p1 hls
    have:=up w4 (some ⟨gA,0,none⟩) cap (l'++[(p,0)]) (hI1.add p1 hnm hcl (by omega)) (by omega) (by rw[Qf hi1,hil]) (λ p' h h2=>?_) s5
    ·rw[e3]at this;exact this
    ·by_cases e:p'=p
     ·subst e;simp
     ·exact Q0 _ (hdn p' (by omega) h2)
 ·have:p=g.prods.length:=by omega
  subst this;exact hgo w1 A' c' l' hI1 hi1 hil hdn s1
end
theorem Zs0 {w:World}{B B2 c:Nat}{vg:Value}{g:Gr}{A:Option Addr}{l:List It}(hg:Zb7.atN w B vg g)(hB:B<=w.heap.size)(hcl:Zbn g)(h:(Zq rIt).at1 w B2 (.slice A l.length c) l)(hB2:B2<=w.heap.size)(hl:l.length<=100000)(hv:Val g.prods l) :
  Ct Tryz.prog Zu.id #[vg,.slice A l.length c] w λ v w'=>∃(A':Option Addr) (c':Nat) (r:List It),v = .slice A' r.length c'/\r.Pairwise itLt/\(∀x,x∈r↔Cl0 g.prods (·∈l) x)/\r.length<=l.length+g.prods.length/\St noB w w' [rowC 89 2 A' r.length c' (r.flatMap itV)]:=by
 refine Zu.ct λ R hR=>?_;obtain ⟨A1,c1,A2,c2,A3,c3,A4,c4,rfl,⟨m1,m2,m3,m4⟩,hst,hc0,hgr⟩:=Zbg hg hB;have hpl:=hcl.prods.c1;have hT:=hcl.syms.t1;have hN:=hcl.syms.n1;have s1:=(St.refl noB w).alloc (gQ A1 c1 A2 c2 A3 c3 A4 c4 g) 27;unfold Zu.run;simp -dsimp[go_sem];have hup:∀w',Chg noB w w'->Zb7.atN w' B (.agg (gQ A1 c1 A2 c2 A3 c3 A4 c4 g)) g/\B<=w'.heap.size:=λ w' hc=>
  ⟨Zx hg (hc.below hB λ _ _=>id),by have:=hc.size;omega⟩
 have h1:(Zq rIt).at1 (w.alloc (.cells (gQ A1 c1 A2 c2 A3 c3 A4 c4 g) 27)) B2 (.slice A l.length c) l:=Rep.below h (s1.chg.below hB2 λ _ _=>id);have hB21:=Qav hB2 s1.chg.size;generalize w.alloc (.cells (gQ A1 c1 A2 c2 A3 c3 A4 c4 g) 27)=w1 at s1 hc0 hgr h1 hB21 |-;generalize w.heap.size=q at s1 hgr |-;refine Zi (Ztv h1 hB21 (by omega)) ?_;rintro _ w2 ⟨Ar,cr,r,rfl,hrs,hrm,hrl,s2⟩;have y2:=(hgr w2 s2.chg).k;unfold Zu.b1_1;simp -dsimp[go_sem,y2];refine Zi (Zej (hup w2 (hc0.trans s2.chg)).1 (hup w2 (hc0.trans s2.chg)).2 (by omega)) ?_;rintro _ w3 ⟨rfl,hc3⟩;have s3:=s2.old hc3;obtain ⟨N,hNe⟩:∃N,g.terms.length+g.nons.length=N:=⟨_,rfl⟩;have eN:(g.terms.length:Int)+g.nons.length=(N:Nat):=by omega
 rw[eN];have s4:=s3.lit 4 1 N (Array.replicate N (Value.bool false)) (by unfold maxLen;omega) (by simp);simp -dsimp[go_sem,Zg2 w3 N (by unfold Zaf;omega)];have e0:(Array.replicate N (Value.bool false)).toList=Zaz (List.replicate N false):=by simp[Zaz]
 rw[e0]at s4;have s4:St noB w1 (w3.alloc (.cells (Array.replicate N (Value.bool false)) 4)) (c9L Ar cr r w3.heap.size N (List.replicate N false)):=s4;generalize w3.alloc (.cells (Array.replicate N (Value.bool false)) 4)=w4 at s4 |-;generalize w3.heap.size=fb at s4 |-;have hr0:∀x,Cl0 g.prods (·∈l) x↔Cl0 g.prods (·∈r) x:=λ x=>Cl0.congr (λ x=>(hrm x).symm) x;have hI0:Cl9 g.prods r r r (List.replicate N false) 0:=⟨λ x hx=> .base hx,λ x hx=>hx,λ s hs=>by rw[Qc,Qa4]at hs;split at hs<;>simp at hs,λ j hj=>by omega,λ x hx=>hv x ((hrm x).1 hx),⟨[],by simp,by simp,by simp⟩⟩;unfold Zu.b4;refine Zu.l6_intro _ _ _ _ _ _ (λ x y w'=>∃(i:Nat) (A':Option Addr) (c':Nat) (l':List It) (ms:List Bool),x = .slice A' l'.length c'/\y = .int .i64 i/\i<=l'.length/\ms.length=N/\Cl9 g.prods r r l' ms i/\St noB w1 w' (c9L A' c' l' fb N ms)) (λ _ y _=>r.length+g.prods.length-iv y)
  ⟨0,Ar,cr,r,List.replicate N false,rfl,rfl,Qy _,by simp,hI0,s4⟩ ?_
 rintro _ _ w5 ⟨i,A',c',l',ms,rfl,rfl,hi,hms,hI,s5⟩ C hC;have hll:=hI.len;simp -dsimp[go_sem];refine Za (λ p1=>?_) (λ p1=>?_)<;>simp at p1
 ·have wi:=wS i (by omega);obtain ⟨b,o,rfl,hb,k1,k2⟩:=Zgv (Zhr s5 0 rfl rfl) p1;obtain ⟨x,hx⟩:∃x,l'[i]=x:=⟨_,rfl⟩;have hxi:l'[i]?=some x:=by rw[<-hx];exact Qb p1
  rw[hx]at k1 k2;have hvx:=hI.val x (Qe hxi);have y5:=(hgr w5 s5.chg).k;have again:∀w' A2 c2 (l2:List It) (ms2:List Bool),ms2.length=N->Cl9 g.prods r r l2 ms2 (i+1)->i<l2.length->St noB w1 w' (c9L A2 c2 l2 fb N ms2)->Zu.b9 R C (.slice A2 l2.length c2) (.int .i64 i) w':=by
   intro w' A2 c2 l2 ms2 g1 g2 g3 s';unfold Zu.b9;simp -dsimp[go_sem,wi];exact hC _ _ _ ⟨i+1,A2,c2,l2,ms2,rfl,by simp,by omega,g1,g2,s'⟩ (by have:=g2.len;simp[iv];omega)
  unfold Zu.b11;simp -dsimp[go_sem,y5,p1,k1,k2];have s6:=s5.old (Chg.refl noB w5).drew;refine Zi (Zho (hup w5.drew (hc0.trans s6.chg)).1 (hup w5.drew (hc0.trans s6.chg)).2 x hvx) ?_;rintro _ w7 ⟨rfl,hc7⟩;have s7:=s6.old hc7;have y7:=(hgr w7 s7.chg).k;have skip:(∀s,aft g.prods x=some s->∀p,p<g.prods.length->lft g.prods p=s->(p,0)∈l')->Zu.b9 R C (.slice (some ⟨b,o,none⟩) l'.length c') (.int .i64 i) w7:=λ hd=>
   again w7 _ c' l' ms hms (hI.next λ x' hx'=>by rw[hxi]at hx';injection hx' with hx';subst hx';exact hd) p1 s7
  unfold Zu.b18;simp -dsimp[go_sem,y7];refine Za (λ p2=>?_) (λ p2=>?_)<;>simp at p2
  ·unfold Zu.b19;simp -dsimp[go_sem];refine skip λ s hs p hp hl=>?_;have:=Zln hcl hp;rw[hl,<-Ztb hs]at this;omega
  ·obtain ⟨s,hs⟩:∃s,aft g.prods x=some s:=by
    cases ha:aft g.prods x with
    | none=>unfold aftI at p2;rw[ha]at p2;simp at p2;omega
    | some s=>exact ⟨s,rfl⟩
   have hsb:=Zov hcl hs;rw[Ztb hs]at p2 |-;obtain ⟨sn,rfl⟩:∃sn:Nat,s=sn:=⟨s.toNat,by omega⟩;have hsN:sn<N:=by omega
   obtain ⟨gf,ef,kf,hfz⟩:=s7.rowAt 1 rfl (j:=sn) (by unfold Zaz;simp;omega);injection ef with ef;injection ef with ef;subst ef;unfold Zu.b18_1;have ekf:(Zaz ms)[sn]'(by unfold Zaz;simp;omega) = .bool (ms.getD sn false):=by unfold Zaz;simp[Qc,Qb (show sn<ms.length by omega)]
   obtain ⟨fl,hfl⟩:∃fl,ms.getD sn false=fl:=⟨_,rfl⟩;rw[ekf,hfl]at kf;simp -dsimp[go_sem,hsN,kf];unfold Zu.b19
   cases fl with
   | true=>
    simp -dsimp[go_sem];refine skip λ s' hs' p hp hl=>?_;rw[hs]at hs';injection hs' with hs';subst hs';exact hI.fla sn hfl p hp hl
   | false=>
    simp -dsimp[go_sem];have s8:=s7.setRow 1 rfl sn (.bool true);have e8:(Zaz ms).set sn (.bool true)=Zaz (ms.set sn true):=by unfold Zaz;rw[Qap]
    rw[e8]at s8;have s8:St noB w1 (w7.setCell ⟨fb,sn,none⟩ (.bool true)) (c9L (some ⟨b,o,none⟩) c' l' fb N (ms.set sn true)):=s8;unfold Zu.b13;simp -dsimp[go_sem,hsN,kf,hfz];refine Zzf (ms:=ms.set sn true) (ms0:=ms) (l0:=r) (l1:=r) (N:=N) (fb:=fb) (W:=w1) hgr hpl (by omega) (l:=l') hI p1 ⟨x,hxi,hs⟩ s8 λ w9 A9 c9 l9 h1 h2 h3 h4 s9=>?_;refine again w9 A9 c9 l9 (ms.set sn true) (by simp[hms]) ((h1.mark h4).next λ x' hx' s' hs' p hp hl=>?_) h2 s9;rw[h3,hxi]at hx';injection hx' with hx';subst hx';rw[hs]at hs';injection hs' with hs';subst hs';exact h4 p hp hl
 ·have:i=l'.length:=by omega
  subst this;have hrd:=Zhr s5 0 rfl rfl;unfold Zu.b3;refine Zi (Ztv hrd (Ql _) (by omega)) ?_;rintro _ w6 ⟨A6,c6,r6,rfl,h1,h2,h3,s6⟩;refine hR _ _ ⟨A6,c6,r6,rfl,h1,λ x=>by rw[h2,hI.all (Ql _),hr0],by omega,s6.lower (hc0.trans s5.chg)⟩
attribute [-go_sem] Zt.b3 Zt.b9 Zt.b13_1 Zt.b13 Zt.b17_1 Zt.b14 Zt.b11 Zt.b4 Zt.b1_1 Zt.b1_2 Zt.b1_3
theorem Zyh {w:World}{a:Option Addr}{n c:Nat}(h:n<=c):Ct Tryz.prog Za2.id #[.slice a n c] w λ v w'=>v = .slice a n n/\w=w':=by
 refine Za2.ct λ R hR=>?_;unfold Za2.run
 cases a with
 | none=>
  simp -dsimp[go_sem,h];exact hR _ _ ⟨rfl,rfl⟩
 | some a=>
  simp -dsimp[go_sem,h];exact hR _ _ ⟨rfl,rfl⟩
theorem ZZ92 (w:World):(Zq rInt).at1 w w.heap.size (.slice none 0 0) []:=⟨none,0,rfl,by simp,by unfold maxLen;omega,trivial,λ h=>absurd h (by simp)⟩
def lkP (x:LRow):Nat×Nat×List Nat:=(x.1,x.2.1,x.2.2.2.2)
def lkL (A:Option Addr)(c:Nat)(D:List LRow):List Ch:=[rowC 79 3 A D.length c (D.flatMap lkV),Ch.all (D.map lkC)]
section
variable {W:World} {g:Gr}
theorem Zth {w:World}{gb nT:Nat}{A1 Ab:Option Addr}{c1 cb:Nat}{bs:List (Nat×Nat×List Nat)}{F:List (List Int)}{fv:Value}{R:EP}(hnT:nT<=1024)(hn0:0<nT)(hD:Deb W)
  (hg:∀w',Chg noB W w'->w'.cell? ⟨gb,0,none⟩=some (.slice A1 nT c1)) (hF:∀w',Chg noB W w'->Zeo w' fv F) (hFl:F.length<=100000)
  (hbk:∀w',Chg noB W w'->Zr4 w' (.slice Ab bs.length cb) bs) (hbl:bs.length<=30000) (hby:∀x∈bs,(∀y∈x.2.2,y<F.length)/\x.2.2.length<=maxLen)
  (s:St noB W w [])
  (hgo:∀w' A c D,D.map (λ x=>(x.1,x.2.1))=bs.map (λ x=>(x.1,x.2.1))->(∀x∈D,∃b∈bs,x.1=b.1/\x.2.1=b.2.1/\x.2.2.2.2.Pairwise (· < ·)/\∀t:Nat,t∈x.2.2.2.2↔∃y∈b.2.2,∃l:List Int,F[y]?=some l/\(t:Int)∈l/\t<nT)->St noB W w' (lkL A c D)->R (.returned (.tuple #[.slice A D.length D.length,.int .i64 0])) w') :
  Zt.b4 R (.pointer (some ⟨gb,0,none⟩)) fv (.slice Ab bs.length cb) (.slice none 0 0) w:=by
 unfold Zt.b4;simp -dsimp[go_sem];refine Zt.l6_intro _ _ _ _ _ _ _ _ (λ x y w'=>∃(i:Nat) (A:Option Addr) (c:Nat) (D:List LRow),x = .slice A D.length c/\y = .int .i64 i/\i<=bs.length/\D.map (λ x=>(x.1,x.2.1))=(bs.take i).map (λ x=>(x.1,x.2.1))/\(∀x∈D,∃b∈bs,x.1=b.1/\x.2.1=b.2.1/\x.2.2.2.2.Pairwise (· < ·)/\∀t:Nat,t∈x.2.2.2.2↔∃y∈b.2.2,∃l:List Int,F[y]?=some l/\(t:Int)∈l/\t<nT)/\St noB W w' (lkL A c D)) (λ _ y _=>bs.length-iv y)
  ⟨0,none,0,[],rfl,rfl,Qy _,by simp,(λ x h=>by cases h),(s.nilRow 79 3).push (c:=Ch.all (([]:List LRow).map lkC)) ⟨λ _=>0,λ i h=>absurd rfl h,λ k c h=>by simp at h⟩⟩ ?_
 rintro _ _ w1 ⟨i,A,c,D,rfl,rfl,hi,hDm,hDx,s1⟩ C hC;simp -dsimp[go_sem];refine Za (λ p1=>?_) (λ p1=>?_)<;>simp at p1
 ·have wi:=wS i (by omega);obtain ⟨b,hb⟩:∃b,bs[i]=b:=⟨_,rfl⟩;have hbi:bs[i]?=some b:=by rw[<-hb];exact Qb p1
  obtain ⟨Ab',cb',e0,hrow⟩:=hbk W (Chg.refl _ _);injection e0 with e1 _ e2;subst e1 e2;obtain ⟨bb,bo,ba,rfl,hbbl,_,_,j3,_⟩:=hrow i b hbi;have rd:∀w',Chg noB W w'->w'.cell? ⟨bb,bo+i*3,none⟩=some (.int .i64 b.1)/\w'.cell? ⟨bb,bo+i*3+1,none⟩=some (.int .i64 b.2.1)/\w'.cell? ⟨bb,bo+i*3+2,none⟩=some (.slice ba b.2.2.length b.2.2.length)/\(Zq rInt).at1 w' w'.heap.size (.slice ba b.2.2.length b.2.2.length) (b.2.2.map λ y:Nat=>(y:Int)):=λ w' hc=>by
   obtain ⟨A',c',e0,hr⟩:=hbk w' hc;injection e0 with e1 _ e2;subst e1 e2;obtain ⟨b',o',a',e3,_,k1,k2,k3,k4⟩:=hr i b hbi;injection e3 with e3;injection e3 with e3 e4 _;subst e3 e4;have:=hc.at j3 id;rw[k3]at this;injection this with this;injection this with this _ _;subst this;exact ⟨k1,k2,k3,k4⟩
  obtain ⟨r1,r2,r3,_⟩:=rd w1 s1.chg;have s2:=s1.alloc #[.int .i64 b.1,.int .i64 b.2.1,.slice ba b.2.2.length b.2.2.length] 73;have hgc:=hg _ s2.chg;unfold Zt.b11;simp -dsimp[go_sem,p1,r1,r2,r3,hgc];have s2:St noB W (w1.alloc (.cells #[.int .i64 b.1,.int .i64 b.2.1,.slice ba b.2.2.length b.2.2.length] 73)) [rowC 79 3 A D.length c (D.flatMap lkV),Ch.all (D.map lkC),boxC w1.heap.size 73 [.int .i64 b.1,.int .i64 b.2.1,.slice ba b.2.2.length b.2.2.length]]:=s2;clear hgc;generalize w1.alloc (.cells #[.int .i64 b.1,.int .i64 b.2.1,.slice ba b.2.2.length b.2.2.length] 73)=w2 at s2 |-;generalize w1.heap.size=x9 at s2 |-;refine Zi (Ztw (W:=W) (size:=nT) (ms:=[]) s2.chg hnT λ w' hc=>ZZ92 w') ?_;rintro _ w3 ⟨sb,sg,ws,rfl,hws,s3⟩;have s4:St noB W w3 (setC sb sg nT ws::[rowC 79 3 A D.length c (D.flatMap lkV),Ch.all (D.map lkC),boxC x9 73 [.int .i64 b.1,.int .i64 b.2.1,.slice ba b.2.2.length b.2.2.length]]):=(s2.seq s3).swap;have y4:=(s4.box 3 rfl).1;simp[Zw]at y4;have hbm:b∈bs:=hb ▸ Qj p1;unfold Zt.b14;simp -dsimp[go_sem,y4];refine Zvi (k1:=0) hnT hF hFl (hby b hbm).1 (hby b hbm).2 (λ w' hc=>(rd w' hc).2.2.2) s4 λ w5 ws5 hb5 s5=>?_;have y5:=(s5.box 3 rfl).1;simp[Zw]at y5;have s6:=s5.old (Chg.refl noB w5).drew;unfold Zt.b13;simp -dsimp[go_sem,y5];refine Zi (Zla s6 (k:=0) rfl hnT hn0 hD) ?_;rintro _ w7 ⟨Am,cm,rfl,s7⟩;have y7:=(s7.box 4 rfl).1;simp[Zw]at y7;unfold Zt.b13_1;simp -dsimp[go_sem,y7];have hDl:D.length=i:=by
   have:=congrArg List.length hDm;simpa[Q6,Qb8 hi]using this
  refine s7.append1 2 (e:=79) (size:=3) rfl uLook iLook rfl (by decide) (news:=lkV (b.1,b.2.1,Am,cm,memb ws5)) rfl (λ u hu=>by simp[lkV]at hu;rcases hu with rfl | rfl | rfl<;>rfl) (by unfold maxLen;omega) (by unfold Zaf;omega) ?_;intro gA cap w8 s8;unfold Zt.b9;simp -dsimp[go_sem,wi];have e3:(D++[((b.1,b.2.1,Am,cm,memb ws5):LRow)]).length=D.length+1:=by simp
  have s9:St noB W w8 (lkL (some ⟨gA,0,none⟩) cap (D++[(b.1,b.2.1,Am,cm,memb ws5)])):=by
   have:=s8.pick [2,3,0] (by decide) (L':=[rowC 79 3 (some ⟨gA,0,none⟩) (D.length+1) cap (D.flatMap lkV++lkV (b.1,b.2.1,Am,cm,memb ws5)),Ch.all (D.map lkC),lkC (b.1,b.2.1,Am,cm,memb ws5)]) rfl;have:=St.allSnoc (L:=[rowC 79 3 (some ⟨gA,0,none⟩) (D.length+1) cap (D.flatMap lkV++lkV (b.1,b.2.1,Am,cm,memb ws5))]) this;unfold lkL;rw[e3,Qab,Qu];simpa using this
  refine hC _ _ _ ⟨i+1,some ⟨gA,0,none⟩,cap,D++[(b.1,b.2.1,Am,cm,memb ws5)],by rw[e3],by simp,by omega,?_,λ x hx=>?_,s9⟩ (by simp[iv];omega)
  ·rw[Qd p1,Qu,Qu,hDm,hb];rfl
  ·rcases Qk.1 hx with hx|hx
   ·exact hDx x hx
   ·rw[Qg]at hx;subst hx;refine ⟨b,hbm,rfl,rfl,Zqj _,λ t=>?_⟩
    show t∈memb ws5↔_
    rw[Zhu,hb5];have:=hws t;simp at this;simp[this]
 ·have:i=bs.length:=by omega
  subst this;rw[Qm]at hDm;obtain ⟨_,hnc,_⟩:=s1.rowSize 0 rfl;unfold Zt.b3;refine Zi (Zyh hnc) ?_;rintro _ _ ⟨rfl,rfl⟩;exact hgo w1 A c D hDm hDx s1
end
def SetsA (g:Gr)(w w':World)(v:Value):Prop:=(∃e:Nat,NoAut g e/\v = .tuple #[.slice none 0 0,.int .i64 e]/\Chg noB w w') \/
 ∃ks ess A c D,AutP g ks ess/\v = .tuple #[.slice A D.length D.length,.int .i64 0]/\LkOk g.prods ks (LaT g ks) (D.map lkP)/\St noB w w' (lkL A c D)
theorem ZZ38 {w:World}{B:Nat}{vg:Value}{g:Gr}(hg:Zb7.atN w B vg g)(hB:B<=w.heap.size)(hD:Deb w) :
  Ct Tryz.prog Zt.id #[vg] w λ v w'=>SetsA g w w' v:=by
 refine Zt.ct λ R hR=>?_;obtain ⟨A1,c1,A2,c2,A3,c3,A4,c4,rfl,⟨m1,m2,m3,m4⟩,hst,hc0,hgr⟩:=Zbg hg hB;have s1:=(St.refl noB w).alloc (gQ A1 c1 A2 c2 A3 c3 A4 c4 g) 27;unfold Zt.run;have y1:=(hgr _ (Chg.refl _ _)).k;simp -dsimp[go_sem,y1];have hup:∀w',Chg noB w w'->Zb7.atN w' B (.agg (gQ A1 c1 A2 c2 A3 c3 A4 c4 g)) g/\B<=w'.heap.size:=λ w' hc=>
  ⟨Zx hg (hc.below hB λ _ _=>id),by have:=hc.size;omega⟩
 clear y1;generalize w.alloc (.cells (gQ A1 c1 A2 c2 A3 c3 A4 c4 g) 27)=w1 at s1 hc0 hgr |-;generalize w.heap.size=gb at s1 hgr |-;have bad:∀e:Nat,NoAut g e->((e:Int) != 0)=true:=λ e he=>by rcases he with ⟨rfl,_⟩ | ⟨rfl,_⟩<;>rfl
 refine Zi (Zoh (hup w1 hc0).1 (hup w1 hc0).2 (hD.chg hc0 id)) ?_;rintro v w2 ⟨hc2,hres⟩;rcases hres with ⟨e,he,rfl⟩|⟨ks,ess,fv,F,hP,rfl,hF1,hF2,hF3⟩
 ·have hne:=bad e he;unfold Zt.b1_3;rw[Ur_eq,Zic,Zb2,Ur_eq,Zh6,Zb2];simp -dsimp[go_sem,hne];exact hR _ _ (Or.inl ⟨e,he,rfl,hc0.trans hc2⟩)
 have hc02:=hc0.trans hc2;have y2:=(hgr _ hc2).k;unfold Zt.b1_3;rw[Ur_eq,Zic,Zb2,Ur_eq,Zh6,Zb2];simp -dsimp[go_sem];unfold Zt.b1_2;simp -dsimp[go_sem,y2];refine Zi (Zox (hup w2 hc02).1 (hup w2 hc02).2 (hD.chg hc02 id)) ?_;rintro v w3 ⟨hc3,hres⟩;have hc03:=hc02.trans hc3;rcases hres with ⟨e,he,rfl⟩|⟨ks2,ess2,bv,f,hP2,rfl,hf,hbk⟩
 ·exact absurd he hP.noAut
 obtain ⟨rfl,rfl⟩:=hP2.uniq hP;unfold Zt.b1_1;rw[Ur_eq,Zic,Zb2,Ur_eq,Zh6,Zb2];simp -dsimp[go_sem];obtain ⟨T,hT⟩:∃T,trL g.terms.length ess2=T:=⟨_,rfl⟩;rw[hT]at hF1 hF2 hf;have hTl:=hP.trLen g.terms.length;rw[hT]at hTl;have hkl:=hP.len;have hpl:=hP.cl.prods.c1;have ht1:=hP.cl.syms.t1;have ht0:0<g.terms.length:=by
  have:=hP.cl.syms.t0
  cases hq:g.terms with
  | nil=>rw[hq]at this;cases this
  | cons a b=>simp
 obtain ⟨Ab,cb,rfl,_⟩:=id hbk;have hbl:=Znw f g.prods.length ks2.length;have hbl2:ks2.length*g.prods.length<=256*97:=Qco hkl hpl;refine Zth (nT:=g.terms.length) (A1:=A1) (c1:=c1) (W:=w3) (F:=F) (by omega) ht0 (hD.chg hc03 id) (λ w' hc=>?_) (λ w' hc=>hF3.keep (hc3.trans hc)) (by omega) (λ w' hc=>hbk.keep hc) (by omega) (λ x hx=>?_) (St.refl noB w3) λ w4 A c D hDm hDx s4=>?_
 ·exact (hgr w' ((hc2.trans hc3).trans hc)).k.1
 ·obtain ⟨h1,h2,h3,h4⟩:=Zf7.1 hx;have hy:∀y∈x.2.2,y<T.length:=λ y hy=>by
   rw[h3]at hy;obtain ⟨q0,h5,_⟩:=(hf _ _ (by omega) (by omega) y).1 hy;exact (Qa.1 h5).1
  refine ⟨λ y h=>by have:=hy y h;omega,?_⟩;obtain ⟨j,hj⟩:=Qo.1 hx;obtain ⟨A',c',e0,hr⟩:=id hbk;obtain ⟨b',o',a',_,_,_,_,_,k4⟩:=hr j x hj;obtain ⟨_,_,e1,h5,h6,_⟩:=Zz k4;simp only[Qp]at h5;exact Qav h5 h6
 ·refine hR _ _ (Or.inr ⟨ks2,ess2,A,c,D,hP,rfl,Zyr hP hT hf ?_ λ x hx=>?_,s4.lower hc03⟩)
  ·rw[Qds];exact hDm
  ·obtain ⟨x0,hx0,rfl⟩:=Qr.1 hx;obtain ⟨b,hb,e1,e2,h5,h6⟩:=hDx x0 hx0;obtain ⟨k1,k2,k3,k4⟩:=Zf7.1 hb;refine ⟨h5,λ t=>?_⟩
   show t∈x0.2.2.2.2↔∃y∈f x0.1 x0.2.1,_
   rw[h6,e1,e2,<-k3];constructor
   ·rintro ⟨y,hy,l,hl,ht,_⟩;exact ⟨y,hy,(hF2 y l hl t).1 ht⟩
   ·rintro ⟨y,hy,hs⟩;have hyf:=hy;rw[k3]at hyf;obtain ⟨q0,h5,_⟩:=(hf _ _ (by omega) (by omega) y).1 hyf;have hyT:=(Qa.1 h5).1;have hl:F[y]?=some F[y]:=Qb (by omega);exact ⟨y,hy,_,hl,(hF2 y _ hl t).2 hs,((Zt5 hP hT h5).1 hs).lt ht0⟩
attribute [-go_sem] Zbq.b3 Zbq.b9 Zbq.b12_1 Zbq.b12 Zbq.b11_1 Zbq.b11
theorem ZZ39 {w:World}{B c:Nat}{A:Option Addr}{a:List It1}(ha:(Zq rFl).at1 w B (.slice A a.length c) a)(hB:B<=w.heap.size)(hla:a.length<=1000000) :
  Ct Tryz.prog Zbq.id #[.slice A a.length c] w λ v w'=>∃A' c',v = .slice A' (Zdl a).length c'/\St noB w w' [rowC 89 2 A' (Zdl a).length c' ((Zdl a).flatMap itV)]:=by
 refine Zbq.ct λ R hR=>?_;have s0:=(St.refl noB w).nilRow 89 2;unfold Zbq.run;simp -dsimp[go_sem];refine Zbq.l6_intro _ _ _ _ _ (λ x y w'=>∃(i:Nat) (A':Option Addr) (c':Nat) (o:List It),x = .slice A' o.length c'/\y = .int .i64 i/\i<=a.length/\o=Zdl (a.take i)/\o.length<=i/\St noB w w' [rowC 89 2 A' o.length c' (o.flatMap itV)]) (λ _ y _=>a.length-iv y)
  ⟨0,none,0,[],rfl,rfl,by omega,rfl,by simp,s0⟩ ?_
 rintro _ _ w1 ⟨i,A',c',o,rfl,rfl,hi,ho,hol,s1⟩ C hC;have wi:=wS i (by omega);simp -dsimp[go_sem];refine Za (λ p1=>?_) (λ p1=>?_)<;>simp at p1
 ·obtain ⟨ba,oa,rfl,_,k1,k2,k3⟩:=Zi0 ha p1;have k1:=s1.chg.at k1 id;have k2:=s1.chg.at k2 id;obtain ⟨x,hx⟩:∃x,a[i]=x:=⟨_,rfl⟩;rw[hx]at k1 k2;have et:Zdl (a.take (i+1))=if o.getLast?=some x.1 then o else o++[x.1]:=by
   rw[Qd p1,hx,Zin,<-ho]
  have s2:=s1.old (Chg.refl noB w1).drew;have hup:∀w' A2 c2 o2,o2=Zdl (a.take (i+1))->o2.length<=i+1->St noB w w' [rowC 89 2 A2 o2.length c2 (o2.flatMap itV)]->Zbq.b9 R C (.slice A2 o2.length c2) (.int .i64 i) w':=by
   intro w' A2 c2 o2 h1 h2 h3;unfold Zbq.b9;simp -dsimp[go_sem,wi];exact hC _ _ _ ⟨i+1,A2,c2,o2,rfl,by simp,by omega,h1,h2,h3⟩ (by simp[iv];omega)
  have hnew:o.getLast?≠some x.1->Zbq.b12_1 R C (.slice (some ⟨ba,oa,none⟩) a.length c) (.slice A' o.length c') (.int .i64 i) w1.drew:=by
   intro hl;unfold Zbq.b12_1;simp -dsimp[go_sem,p1,k1,k2];refine s2.append1 0 rfl Zhk Zne rfl (by decide) (news:=[.int .i64 x.1.1,.int .i64 x.1.2]) rfl (by simp[Value.oneCell']) (by unfold maxLen;omega) (by unfold Zaf;omega) ?_;intro g2 cap w4 s4;have e3:o.length+1=(o++[x.1]).length:=by simp
   have e2:o.flatMap itV++[.int .i64 x.1.1,.int .i64 x.1.2]=(o++[x.1]).flatMap itV:=by rw[Qab];simp[itV]
   have s4:St noB w w4 [rowC 89 2 (some ⟨g2,0,none⟩) (o.length+1) cap (o.flatMap itV++[.int .i64 x.1.1,.int .i64 x.1.2])]:=s4;rw[e2,e3]at s4;rw[e3];exact hup w4 _ cap _ (by rw[et,if_neg hl]) (by rw[<-e3];omega) s4
  unfold Zbq.b11;simp -dsimp[go_sem];refine Za (λ p2=>?_) (λ p2=>?_)<;>simp at p2
  ·unfold Zbq.b12;simp -dsimp[go_sem];exact hnew (by rw[p2];simp)
  ·obtain ⟨y,hy⟩:∃y,o.getLast?=some y:=⟨o.getLast p2,Qcn p2⟩;have hpos:0<o.length:=Qa6.2 p2;have hyi:o[o.length-1]?=some y:=by rw[<-List.getLast?_eq_getElem?];exact hy
   obtain ⟨F,hrow,_⟩:=s1.get (k:=0) rfl;obtain ⟨g0,eg,hcl,_⟩:=Zck hrow (λ _ _=>rfl) (by decide) hyi;subst eg;have y0:=hcl 0 _ rfl;have y1:=hcl 1 _ rfl;obtain ⟨m,hm⟩:∃m,o.length-1=m:=⟨_,rfl⟩;rw[hm]at y0 y1;have wl:IntKind.i64.wrap ((o.length:Int)-1)=(m:Int):=by rw[show (o.length:Int)-1=(m:Int) by omega];exact IntWalk.i64_in _ (by omega)
   have hmo:m<o.length:=by omega
   simp only[Qb3]at y0;unfold Zbq.b11_1;simp -dsimp[go_sem,wl,hmo,y0,y1,p1,k1,k2];unfold Zbq.b12;refine Za (λ p3=>?_) (λ p3=>?_)<;>simp at p3
   ·refine hnew λ e=>?_;rw[hy]at e;injection e with e;subst e;omega
   ·have e:y=x.1:=by refine Prod.ext ?_ ?_<;>omega
    refine hup _ _ _ o ?_ (by omega) s2;rw[et,hy,e,if_pos rfl]
 ·have hie:i=a.length:=by omega
  rw[hie,Qm]at ho;subst ho;unfold Zbq.b3;exact hR _ _ ⟨A',c',rfl,s1⟩
end Go.Proofs.YtjibcckpehdbhaaGreatDoor
namespace Go.Px.Cn
open Go.Px Go.Px.Scan
theorem Zvp (P:Prs)(a:List It1)(z:It1)(s:Int):behL P (a++[z]) s=if aft P z.1=some s then behL P a s++[((z.1.1,z.1.2+1),z.2)] else behL P a s:=by
 unfold behL;rw[Qae,Qu];by_cases h:aft P z.1=some s<;>simp[h]
theorem Zxl (P:Prs)(a:List It1)(s:Int):(behL P a s).length<=a.length:=by
 unfold behL;rw[Qp];exact Qah _ _
theorem ZZ80 {g:Gr}{a:List It1}{s:Int}(h:∀z∈a,ItOk g z):∀z∈behL g.prods a s,ItOk g z:=by
 intro z hz;unfold behL at hz;rw[Qr]at hz;obtain ⟨y,hy,rfl⟩:=hz;rw[Qz]at hy;have h1:=h y hy.1;refine ⟨h1.1,?_,h1.2.2⟩;have h2:aft g.prods y.1=some s:=by simpa using hy.2
 unfold aft at h2;exact (Qa.1 h2).1
end Go.Px.Cn
namespace Go.Proofs.YtjibcckpehdbhaaGreatDoor
open Go.Px Go.Px.Scan Go.Px.Cn Go.RowKit
attribute [-go_sem] Builtin.append_ Zb.b3 Zb.b8 Zb.b25 Zb.b24_1 Zao.b3 Zao.b8 Zao.b7_1 Zao.b7_2
theorem Znx (cb:Value)(w:World):Ct Tryz.prog Zb.id #[cb,.slice none 0 0] w λ v w'=>v = .slice none 0 0/\w=w':=by
 refine Zb.ct λ R hR=>?_;unfold Zb.run;simp -dsimp[go_sem];refine Zb.l5_intro _ _ _ _ _ (λ x y w'=>x = .slice none 0 0/\y = .slice none 0 0/\w'=w) (λ _ _ _=>0) ⟨rfl,rfl,rfl⟩ ?_;rintro _ _ _ ⟨rfl,rfl,rfl⟩ C hC;simp -dsimp[go_sem];unfold Zb.b25;simp -dsimp[go_sem];unfold Zb.b3;exact hR _ _ ⟨rfl,rfl⟩
section
variable {W w:World} {B:Nat} {g:Gr} {A1 A2 A3 A4:Option Addr} {c1 c2 c3 c4 bb mN mH cH:Nat} {ga:Nat->Nat} {null:List Bool} {hs:List (List Bool)}
theorem ZZ113 (env:CanEnv W B g A1 A2 A3 A4 c1 c2 c3 c4 bb mN mH cH ga null hs){x:It}(h1:x.1<g.prods.length)(h2:x.2<=(rgt g.prods x.1).length):x.2<=maxLen:=by
 obtain ⟨_,_,vr,_,_,_,_,_,hr,_⟩:=Zcc env.r4 h1;obtain ⟨_,cr,_,hrl,hrm,_⟩:=Zz hr;have:rgt g.prods x.1=(g.prods[x.1]'h1).2.1:=by simp[rgt,h1]
 rw[this]at h2;omega
theorem ZZ31 (env:CanEnv W B g A1 A2 A3 A4 c1 c2 c3 c4 bb mN mH cH ga null hs){x:It}{s:Int}(h1:x.1<g.prods.length)(h2:aft g.prods x=some s):x.2<9223372036854775807:=by
 obtain ⟨_,_,vr,_,_,_,_,_,hr,_⟩:=Zcc env.r4 h1;obtain ⟨_,cr,_,hrl,hrm,_⟩:=Zz hr;have:rgt g.prods x.1=(g.prods[x.1]'h1).2.1:=by simp[rgt,h1]
 unfold aft at h2;rw[this]at h2;have:=(Qa.1 h2).1;unfold maxLen at hrm;omega
theorem Zso (env:CanEnv W B g A1 A2 A3 A4 c1 c2 c3 c4 bb mN mH cH ga null hs){M:List Ch}{cb left0:Nat}{s:List It1}{As:Option Addr}{cs:Nat}{sym:Nat}{X1 X2 X3 X4:Ch}
  (st:St noB W w (canB g A1 A2 A3 A4 c1 c2 c3 c4 bb cb left0::X1::X2::X3::X4::M)) (hl0:left0<=20000) (hlen:s.length<=20000) (hok:∀z∈s,ItOk g z)
  (hsr:∀w' Y0 Y1 Y2 Y3 Y4,St noB W w' (Y0::Y1::Y2::Y3::Y4::M)->(Zq rFl).at1 w' w'.heap.size (.slice As s.length cs) s) :
  Ct Tryz.prog Zao.id #[.pointer (some ⟨cb,0,none⟩),.slice As s.length cs,.int .i64 sym] w λ v w'=>∃(left':Nat) (A:Option Addr) (c:Nat) (r:List It1),v = .slice A r.length c/\left'<=left0/\r.Pairwise fLt/\(∀z∈r,ItOk g z)/\r.length+left'<=left0/\(0<left'->∀z,z∈r↔Cl1 g.prods (FI g.terms.length null hs) (·∈behL g.prods s sym) z) /\
   ∃X1 X3 X4,St noB W w' (canB g A1 A2 A3 A4 c1 c2 c3 c4 bb cb left'::X1::rowC 117 3 A r.length c (r.flatMap fV)::X3::X4::M):=by
 refine Zao.ct λ R hR=>?_;have s0:=(st.nilRow 117 3).swapEnd 1 (by simp);have s0:St noB W w (canB g A1 A2 A3 A4 c1 c2 c3 c4 bb cb left0::rowC 117 3 none 0 0 []::X2::X3::X4::M):=s0;have hgr:∀w',Chg noB W w'->Zb7.atN w' B (.agg (gQ A1 c1 A2 c2 A3 c3 A4 c4 g)) g/\B<=w'.heap.size:=λ w' hc=>
  ⟨Zx env.gr (hc.below env.hB λ _ _=>id),by have:=hc.size;have:=env.hB;omega⟩
 unfold Zao.run;simp -dsimp[go_sem];refine Zao.l6_intro _ _ _ _ _ _ _ (λ x y w'=>∃(i:Nat) (A:Option Addr) (c:Nat) (l:List It1),x = .slice A l.length c/\y = .int .i64 i/\i<=s.length/\l=behL g.prods (s.take i) sym/\(l=[]->A=none/\c=0)/\St noB W w' (canB g A1 A2 A3 A4 c1 c2 c3 c4 bb cb left0::rowC 117 3 A l.length c (l.flatMap fV)::X2::X3::X4::M)) (λ _ y _=>s.length-iv y)
  ⟨0,none,0,[],rfl,rfl,by omega,rfl,λ _=>⟨rfl,rfl⟩,s0⟩ ?_
 rintro _ _ w1 ⟨i,A,c,l,rfl,rfl,hi,hle,hnil,s1⟩ C hC;have hll:l.length<=20000:=by
  rw[hle];have:=Zxl g.prods (s.take i) sym;rw[Q6]at this;omega
 simp -dsimp[go_sem];refine Za (λ p1=>?_) (λ p1=>?_)<;>simp at p1
 ·have wi:=wS i (by omega);have hat:=hsr w1 _ _ _ _ _ s1;obtain ⟨ba,oa,rfl,_,k1,k2,k3⟩:=Zi0 hat p1;obtain ⟨z,hz⟩:∃z,s[i]=z:=⟨_,rfl⟩;have hzo:=hok s[i] (Qj p1);rw[hz]at k1 k2 k3 hzo;have et:behL g.prods (s.take (i+1)) sym=if aft g.prods z.1=some (sym:Int) then l++[((z.1.1,z.1.2+1),z.2)] else l:=by
   rw[Qd p1,hz,Zvp,<-hle]
  have y1:=(s1.box 0 rfl).1;simp[Zw]at y1;have s2:=s1.old (Chg.refl noB w1).drew;unfold Zao.b7_2;simp -dsimp[go_sem,y1,p1,k1,k2];refine Zi (Zho (hgr _ s2.chg).1 (hgr _ s2.chg).2 z.1 ⟨hzo.1,hzo.2.1⟩) ?_;rintro _ w2 ⟨rfl,hc2⟩;have s3:=s2.old hc2;have hup:∀w' A2' c2' l2,l2=behL g.prods (s.take (i+1)) sym->(l2=[]->A2'=none/\c2'=0)->St noB W w' (canB g A1 A2 A3 A4 c1 c2 c3 c4 bb cb left0::rowC 117 3 A2' l2.length c2' (l2.flatMap fV)::X2::X3::X4::M)->Zao.b8 R C (.slice A2' l2.length c2') (.int .i64 i) w':=by
   intro w' A2' c2' l2 h1 h2 h3;unfold Zao.b8;simp -dsimp[go_sem,wi];exact hC _ _ _ ⟨i+1,A2',c2',l2,rfl,by simp,by omega,h1,h2,h3⟩ (by simp[iv];omega)
  have hiff:aftI g.prods z.1=(sym:Int)↔aft g.prods z.1=some (sym:Int):=by
   unfold aftI
   cases h:aft g.prods z.1 with
   | none=>simp
   | some q=>simp
  simp -dsimp[go_sem];refine Za (λ p2=>?_) (λ p2=>?_)<;>simp at p2
  ·have haf:=hiff.1 p2;have hat2:=hsr w2 _ _ _ _ _ s3;obtain ⟨ba',oa',eA,_,k1,k2,k3⟩:=Zi0 hat2 p1;injection eA with eA;injection eA with e1 e2;subst e1 e2;rw[hz]at k1 k2 k3;have hdl:=ZZ113 env hzo.1 hzo.2.1;unfold maxLen at hdl;have hd2:z.1.2<9223372036854775807:=ZZ31 env hzo.1 haf;have wd:IntKind.i64.wrap ((z.1.2:Int)+1)=(z.1.2:Int)+1:=IntWalk.i64_in _ (by omega);unfold Zao.b7_1;simp -dsimp[go_sem,p1,k1,k2,k3,wd];refine s3.append1d 1 rfl ZZ12 Zwk rfl (by decide) (news:=[.int .i64 z.1.1,.int .i64 ((z.1.2:Int)+1),.int .i64 z.2]) rfl (by simp[Value.oneCell']) (by unfold maxLen;omega) (by unfold Zaf;omega) ?_;intro g2 cap w4 s5;have s5:St noB W w4 (canB g A1 A2 A3 A4 c1 c2 c3 c4 bb cb left0::rowC 117 3 (some ⟨g2,0,none⟩) (l.length+1) cap (l.flatMap fV++[.int .i64 z.1.1,.int .i64 ((z.1.2:Int)+1),.int .i64 z.2])::X2::X3::X4::M):=s5;have e2:l.flatMap fV++[.int .i64 z.1.1,.int .i64 ((z.1.2:Int)+1),.int .i64 z.2]=(l++[((z.1.1,z.1.2+1),z.2)]).flatMap fV:=by rw[Qab];simp[fV]
   have e3:l.length+1=(l++[(((z.1.1,z.1.2+1),z.2):It1)]).length:=by simp
   rw[e2,e3]at s5;rw[e3];exact hup w4 _ cap _ (by rw[et,if_pos haf]) (λ h=>by simp at h) s5
  ·exact hup w2 A c l (by rw[et,if_neg (λ h=>p2 (hiff.2 h))]) hnil s3
 ·have hie:i=s.length:=by omega
  rw[hie,Qm]at hle;have hlok:∀z∈l,ItOk g z:=by rw[hle];exact ZZ80 hok
  unfold Zao.b3;by_cases hln:l=[]
  ·obtain ⟨rfl,rfl⟩:=hnil hln;subst hln;refine Zi (Znx _ _) ?_;rintro _ _ ⟨rfl,rfl⟩;have s2:=(s1.nilRow 117 3).swapEnd 2 (by simp);refine hR _ _ ⟨left0,none,0,[],rfl,Ql _,List.Pairwise.nil,λ z h=>absurd h Qcb,by simp,λ _ z=>⟨λ h=>absurd h Qcb,λ h=>?_⟩,_,_,_,s2⟩;rw[<-hle]at h;obtain ⟨y,hy⟩:=h.ne;exact absurd hy Qcb
  ·obtain ⟨g2,eg,_⟩:=s1.rowAt 1 rfl (j:=0) (by
    obtain ⟨z,r,rfl⟩:=List.exists_cons_of_ne_nil hln
    simp[fV])
   subst eg;have s2:=s1.turn (k:=1) rfl (d:=qC 3 ⟨g2,0,none⟩ l.length c (l.flatMap fV)) λ F h=>Znk h;refine Zi (Zku env (l0:=l) (a0:=⟨g2,0,none⟩) (cc0:=c) s2 hl0 (by omega) hlok) ?_;rintro v w2 ⟨left',A',c',r,rfl,h1,h2,h3,h4,h5,h6⟩;exact hR _ _ ⟨left',A',c',r,rfl,h1,h2,h3,h4,λ hp z=>by rw[<-hle];exact h5 hp z,h6⟩
end
end Go.Proofs.YtjibcckpehdbhaaGreatDoor
namespace Go.Px.Cn
open Go.Px Go.Px.Scan
abbrev SK:=Option Addr×Nat×List It1
def rowS (x:SK):Ch:=rowC 117 3 x.1 x.2.2.length x.2.1 (x.2.2.flatMap fV)
def valS (x:SK):Value := .slice x.1 x.2.2.length x.2.1
def colM (aA:Option Addr)(cA:Nat)(K:List SK):List Ch:=[rowC 114 1 aA K.length cA (K.map valS),Ch.all (K.map rowS)]
theorem Zmu {W w:World}{Y0 Y1 Y2 Y3 Y4:Ch}{aA:Option Addr}{cA:Nat}{K:List SK}(s:St noB W w (Y0::Y1::Y2::Y3::Y4::colM aA cA K)){i:Nat}{x:SK}(hx:K[i]?=some x) :
  (∃gA,aA=some ⟨gA,0,none⟩/\w.cell? ⟨gA,i,none⟩=some (valS x))/\(Zq rFl).at1 w w.heap.size (.slice x.1 x.2.2.length x.2.1) x.2.2:=by
 have hi:=(Qa.1 hx).1;constructor
 ·obtain ⟨gA,eA,cA',_⟩:=s.rowAt 5 rfl (j:=i) (by simpa using hi);refine ⟨gA,eA,?_⟩;rw[cA',Q8,(Qa.1 hx).2]
 ·obtain ⟨F,sF,_⟩:=s.inAll' 6 rfl;exact Zvb sF i (by rw[Qh,hx];rfl)
end Go.Px.Cn
namespace Go.Proofs.YtjibcckpehdbhaaGreatDoor
open Go.Px Go.Px.Scan Go.Px.Cn Go.RowKit
attribute [-go_sem] Builtin.append_ Ze.b3 Ze.b9 Ze.b16 Ze.b22 Ze.b24 Ze.b23_1 Ze.b23 Ze.b20 Ze.b29 Ze.b31 Ze.b25 Ze.b18_1 Ze.b18 Ze.b11 Ze.b4 Ze.b1_1
theorem Zyn {W w:World}{Y0 Y1 Y3 Y4:Ch}{aA A:Option Addr}{cA c:Nat}{K:List SK}{r:List It1}{x1 x6 x9:Value}{R:EP}{C6 C13:Value->VP}
  (s:St noB W w (Y0::Y1::rowC 117 3 A r.length c (r.flatMap fV)::Y3::Y4::colM aA cA K)) (hK:K.length<=1000) (hKl:∀x∈K,x.2.2.length<=20000) {th0:Bool} (hth0:th0=true↔r=[])
  (hgo:∀w' th,(th=true↔r=[]\/∃x∈K,x.2.2=r)->St noB W w' (Y0::Y1::rowC 117 3 A r.length c (r.flatMap fV)::Y3::Y4::colM aA cA K)->Ze.b20 R C6 C13 x1 x6 (.slice aA K.length cA) x9 (.slice A r.length c) (.bool th) w') :
  Ze.b25 R C6 C13 x1 x6 (.slice aA K.length cA) x9 (.slice A r.length c) (.bool th0) w:=by
 unfold Ze.b25;refine Ze.l27_intro _ _ _ _ _ _ _ _ _ _ _ (λ x y w'=>∃(th:Bool) (k:Nat),x = .bool th/\y = .int .i64 k/\k<=K.length/\(th=true->r=[]\/∃x∈K,x.2.2=r)/\(th=false->r≠[]/\∀j x,j<k->K[j]?=some x->x.2.2≠r)/\St noB W w' (Y0::Y1::rowC 117 3 A r.length c (r.flatMap fV)::Y3::Y4::colM aA cA K)) (λ _ y _=>K.length-iv y)
  ⟨th0,0,rfl,rfl,by omega,λ h=>Or.inl (hth0.1 h),λ h=>⟨λ e=>by exact absurd (hth0.2 e) (by rw[h];simp),λ j x h=>by omega⟩,s⟩ ?_
 rintro _ _ w1 ⟨th,k,rfl,rfl,hk,h1,h2,s1⟩ C hC;have hfin:(th=true\/k=K.length)->Ze.b31 R C6 C13 C x1 x6 (.slice aA K.length cA) x9 (.slice A r.length c) (.bool th) (.int .i64 k) (.bool false) w1:=by
  intro h;unfold Ze.b31;simp -dsimp[go_sem];refine hgo w1 th ⟨h1,λ h3=>?_⟩ s1
  cases th with
  | true=>rfl
  | false=>
   exfalso
   obtain ⟨h4,h5⟩:=h2 rfl;rcases h with h|h
   ·cases h
   ·rcases h3 with h3|⟨x,hx,h3⟩
    ·exact h4 h3
    ·obtain ⟨j,hj⟩:=Qo.1 hx;exact h5 j x (by rw[h];exact (Qa.1 hj).1) hj h3
 simp -dsimp[go_sem];refine Za (λ p1=>?_) (λ p1=>?_)<;>simp at p1
 ·cases th with
  | true=>
   simp -dsimp[go_sem];exact hfin (Or.inl rfl)
  | false=>
   have wk:=wS k (by omega);have hxk:K[k]?=some K[k]:=Qb p1;obtain ⟨⟨gA,eA,hcell⟩,hat⟩:=Zmu s1 hxk;unfold valS at hcell;subst eA;have hr:=Zvb s1 2 rfl;simp -dsimp[go_sem];unfold Ze.b31;simp -dsimp[go_sem];unfold Ze.b29;simp -dsimp[go_sem,p1,hcell];refine Zi (Zy0 hat hr (Ql _) (Ql _) (by have:=hKl K[k] (Qj p1);omega)) ?_;rintro _ w2 ⟨⟨b,rfl,hb⟩,hc2⟩;have s2:=s1.old hc2;simp -dsimp[go_sem,wk];refine hC _ _ _ ⟨b,k+1,rfl,by simp,by omega,λ h=>Or.inr ⟨K[k],Qj p1,hb.1 h⟩,λ h=>⟨(h2 rfl).1,λ j x hj hx e=>?_⟩,s2⟩ (by simp[iv];omega);by_cases ej:j=k
   ·subst ej;rw[hxk]at hx;injection hx with hx;subst hx;rw[hb.2 e]at h;cases h
   ·exact (h2 rfl).2 j x (by omega) hx e
 ·exact hfin (Or.inr (by omega))
end Go.Proofs.YtjibcckpehdbhaaGreatDoor
namespace Go.Px.Cn
open Go.Px Go.Px.Scan
def asOf (K:List SK):List (List It1):=K.map λ x=>x.2.2
structure CKOk (g:Gr)(K:List SK):Prop where
 len:K.length<=150
 row:∀x∈K,x.2.2.Pairwise fLt/\(∀z∈x.2.2,ItOk g z)/\x.2.2.length<=20000
end Go.Px.Cn
namespace Go.Proofs.YtjibcckpehdbhaaGreatDoor
open Go.Px Go.Px.Scan Go.Px.Cn Go.RowKit
attribute [-go_sem] Builtin.append_ Ze.b3 Ze.b9 Ze.b16 Ze.b22 Ze.b24 Ze.b23_1 Ze.b23 Ze.b20 Ze.b29 Ze.b31 Ze.b25 Ze.b18_1 Ze.b18 Ze.b11 Ze.b4 Ze.b1_1
theorem uSets:Tryz.prog.underlying 38=some (.slice 114):=Tryz.underlying38
theorem iSet:(Tryz.prog.info? 114).map (λ i=>(i.zero,i.size,i.bytes))=some (some (.slice none 0 0),1,24):=by kernel_rfl
section
variable {W w:World} {B:Nat} {g:Gr} {A1 A2 A3 A4:Option Addr} {c1 c2 c3 c4 bb mN mH cH:Nat} {ga:Nat->Nat} {null:List Bool} {hs:List (List Bool)}
theorem Zv1 (env:CanEnv W B g A1 A2 A3 A4 c1 c2 c3 c4 bb mN mH cH ga null hs){cb left i sym:Nat}{aA:Option Addr}{cA:Nat}{K:List SK}{X1 X2 X3 X4:Ch}{a:SK}{R:EP}{C6 C13:Value->VP}
  (s:St noB W w (canB g A1 A2 A3 A4 c1 c2 c3 c4 bb cb left::X1::X2::X3::X4::colM aA cA K)) (hl0:left<=20000) (hK:CKOk g K) (ha:K[i]?=some a) (hcol:0<left->ColI g.prods (FI g.terms.length null hs) (asOf K) i)
  (hbad:∀w',Chg noB W w'->R (.returned (.tuple #[.slice none 0 0,.bool false])) w')
  (hgo:∀w' aA' cA' K' left' X1 X2 X3 X4,left'<=left->(∃t,K'=K++t)->CKOk g K'->(0<left'->ColI g.prods (FI g.terms.length null hs) (asOf K') i/\((∃z,Go1 g.prods (·∈a.2.2) (sym:Int) z)->∃a'∈asOf K',∀z,z∈a'↔Cl1 g.prods (FI g.terms.length null hs) (·∈behL g.prods a.2.2 sym) z)) ->
   St noB W w' (canB g A1 A2 A3 A4 c1 c2 c3 c4 bb cb left'::X1::X2::X3::X4::colM aA' cA' K')->Ze.b16 R C6 C13 (.slice aA' K'.length cA') (.int .i64 sym) w') :
  Ze.b18 R C6 C13 (.int .i64 150) (.pointer (some ⟨cb,0,none⟩)) (.slice aA K.length cA) (.int .i64 i) (.int .i64 sym) w:=by
 have hil:=(Qa.1 ha).1;have hKl:=hK.len;obtain ⟨hsrt,hiok,hlen⟩:=hK.row a (Qe ha);obtain ⟨⟨gA,eA,hcell⟩,hat⟩:=Zmu s ha;unfold valS at hcell;subst eA;unfold Ze.b18;simp -dsimp[go_sem,hil,hcell];refine Zi (Zso env (sym:=sym) s hl0 hlen hiok (λ w' Y0 Y1 Y2 Y3 Y4 h=>(Zmu h ha).2)) ?_;rintro _ w1 ⟨left',A,c,r,rfl,hll,hrs,hrok,hrl,hcl,X1',X3',X4',s1⟩;have hcol':0<left'->ColI g.prods (FI g.terms.length null hs) (asOf K) i:=λ h=>hcol (by omega);unfold Ze.b18_1;simp -dsimp[go_sem];have hth0:((r.length:Int) == 0)=true↔r=[]:=by simp
 refine Zyn s1 (by omega) (λ x hx=>(hK.row x hx).2.2) hth0 λ w2 th hth s2=>?_;unfold Ze.b20
 cases th with
 | true=>
  simp -dsimp[go_sem];refine hgo w2 _ cA K left' _ _ _ _ hll ⟨[],by simp⟩ hK (λ hp=>⟨hcol' hp,λ ⟨z,hz⟩=>?_⟩) s2;rcases hth.1 rfl with h|⟨x,hx,h⟩
  ·have h1:z∈behL g.prods a.2.2 sym:=Zl5.2 hz;have h2:=(hcl hp z).2 (.base h1);rw[h]at h2;cases h2
  ·exact ⟨x.2.2,Qr.2 ⟨x,hx,rfl⟩,λ z=>by rw[h];exact hcl hp z⟩
 | false=>
  have hne:r≠[]:=λ h=>by have:=hth.2 (Or.inl h);cases this
  simp -dsimp[go_sem];unfold Ze.b23;simp -dsimp[go_sem];refine Za (λ p1=>?_) (λ p1=>?_)<;>simp at p1
  ·unfold Ze.b24;simp -dsimp[go_sem];exact hbad _ s2.chg
  ·have y2:=(s2.box 0 rfl).1;simp[Zw]at y2;unfold Ze.b23_1;simp -dsimp[go_sem,y2];unfold Ze.b24;refine Za (λ p2=>?_) (λ p2=>?_)<;>simp at p2
   ·exact hbad _ s2.chg
   ·unfold Ze.b22;simp -dsimp[go_sem];refine s2.append1 5 rfl uSets iSet rfl (by decide) (news:=[.slice A r.length c]) rfl (by simp[Value.oneCell']) (by unfold maxLen;omega) (by unfold Zaf;omega) ?_;intro gA2 cap w4 s4;have s5:=s4.into 2 6 rfl rfl (by decide);have eK:(K++[((A,c,r):SK)]).map valS=K.map valS++[.slice A r.length c]:=by rw[Qu];rfl
    have eR:(K++[((A,c,r):SK)]).map rowS=K.map rowS++[rowC 117 3 A r.length c (r.flatMap fV)]:=by rw[Qu];rfl
    have eL:(K++[((A,c,r):SK)]).length=K.length+1:=by simp
    have hpos:0<left':=by omega
    rw[<-eL];refine hgo w4 (some ⟨gA2,0,none⟩) cap (K++[(A,c,r)]) left' X1' Ch.emp X3' X4' hll ⟨_,rfl⟩ ⟨by rw[eL];omega,λ x hx=>?_⟩ (λ hp=>⟨?_,λ _=>⟨r,?_,λ z=>hcl hp z⟩⟩) ?_
    ·rcases Qk.1 hx with hx|hx
     ·exact hK.row x hx
     ·rw[Qg]at hx;subst hx;exact ⟨hrs,hrok,by show r.length<=20000;omega⟩
    ·unfold asOf;rw[Qu];exact (hcol' hp).snoc (a:=a.2.2) (s:=sym) (by unfold asOf;rw[Qh,ha];rfl) (hcl hp) hne hrs
    ·unfold asOf;rw[Qu];simp
    ·unfold colM;rw[eK,eR,eL];exact s5
end
end Go.Proofs.YtjibcckpehdbhaaGreatDoor
namespace Go.Px.Cn
open Go.Px Go.Px.Scan
def CoR (w:World)(gA:Nat)(ss:List (List It1)):Prop:=∀(i:Nat) (a:List It1),ss[i]?=some a->∃Ai ci,w.cell? ⟨gA,i,none⟩=some (.slice Ai a.length ci)/\(Zq rFl).at1 w w.heap.size (.slice Ai a.length ci) a
end Go.Px.Cn
namespace Go.Proofs.YtjibcckpehdbhaaGreatDoor
open Go.Px Go.Px.Scan Go.Px.Cn Go.RowKit
attribute [-go_sem] Builtin.append_ Ze.b3 Ze.b9 Ze.b16 Ze.b22 Ze.b24 Ze.b23_1 Ze.b23 Ze.b20 Ze.b29 Ze.b31 Ze.b25 Ze.b18_1 Ze.b18 Ze.b11 Ze.b4 Ze.b1_1
theorem bCan (a b c d:Option Addr)(n1 n2 n3 n4 d1 d2 d3 d4:Nat)(x y:Int)(p:Option Addr)(w:World):(Instr.build 112 #[(0,.agg #[.slice a n1 d1,.slice b n2 d2,.slice c n3 d3,.int .i64 x,.slice d n4 d4]),(1,.pointer p),(2,.int .i64 y)]).run Tryz.prog w = .ok (.agg #[.slice a n1 d1,.slice b n2 d2,.slice c n3 d3,.int .i64 x,.slice d n4 d4,.pointer p,.int .i64 y]) w:=by
 have e1:∀(A:Array Value) (k:Nat) (q:Int),Array.foldl (λ (cs:Array Value) (x:Value×Nat)=>cs.setIfInBounds (k+x.snd) x.fst) A (Value.int .i64 q).cells.zipIdx 0 1=A.setIfInBounds k (.int .i64 q):=λ A k q=>rfl;have e2:∀(A:Array Value) (k:Nat),Array.foldl (λ (cs:Array Value) (x:Value×Nat)=>cs.setIfInBounds (k+x.snd) x.fst) A (Value.pointer p).cells.zipIdx 0 1=A.setIfInBounds k (.pointer p):=λ A k=>rfl;simp[go_sem,e1,e2]
theorem Zly {w:World}{B:Nat}{vg:Value}{g:Gr}(hg:Zb7.atN w B vg g)(hB:B<=w.heap.size)(hcl:Zbn g) :
  Ct Tryz.prog Ze.id #[vg,.int .i64 150] w λ v w'=>Chg noB w w'/\((∃v0,v = .tuple #[v0,.bool false])\/∃null hs gA c ss,v = .tuple #[.slice (some ⟨gA,0,none⟩) ss.length c,.bool true]/\Zo0 g.terms.length g.prods null hs/\Zm9 g.terms.length g.prods null hs/\Lr1 g.prods (FI g.terms.length null hs) ss /\
   (∀a∈ss,a.Pairwise fLt/\a.length<=20000)/\ss.length<=150/\CoR w' gA ss):=by
 refine Ze.ct λ R hR=>?_;obtain ⟨A1,c1,A2,c2,A3,c3,A4,c4,rfl,⟨m1,m2,m3,m4⟩,hst,hc0,hgr⟩:=Zbg hg hB;have s1:=(St.refl noB w).alloc (gQ A1 c1 A2 c2 A3 c3 A4 c4 g) 27;unfold Ze.run;have y1:=(hgr _ (Chg.refl _ _)).k;simp -dsimp[go_sem,y1];have hbl:Below B w (w.alloc (.cells (gQ A1 c1 A2 c2 A3 c3 A4 c4 g) 27)).drew:=s1.chg.drew.below hB λ _ _=>id;have hg1:=Zx hg hbl;have hB1:B<=(w.alloc (.cells (gQ A1 c1 A2 c2 A3 c3 A4 c4 g) 27)).drew.heap.size:=by have:=hbl.size;omega
 have s2:=s1.old (Chg.refl noB _).drew;clear y1 s1 hgr hc0 hbl;generalize (w.alloc (.cells (gQ A1 c1 A2 c2 A3 c3 A4 c4 g) 27)).drew=w1 at s2 hg1 hB1 |-;generalize w.heap.size=q at s2 |-;refine Zi (Zxd hg1 hB1 hcl) ?_;rintro _ W ⟨B1,B2,B3,B4,d1,d2,d3,d4,bb,mN,mH,cH,ga,null,hs,hvg,rfl,hcW,hnl,hhl,hhc,htab,hsnd,hout,hbg⟩;injection hvg with hvg;injection hvg with hvg;simp at hvg;obtain ⟨⟨rfl,rfl⟩,⟨rfl,rfl⟩,⟨rfl,rfl⟩,⟨rfl,rfl⟩⟩:=hvg;have s3:=s2.old hcW;have env:CanEnv W B g A1 A2 A3 A4 c1 c2 c3 c4 bb mN mH cH ga null hs :=
  ⟨Zx hg1 (hcW.below hB1 λ _ _=>id),by have:=hcW.size;omega,hcl,hnl,hhl,hhc,hout,hbg⟩
 have hq:∀w',Chg noB W w'->Zw w' q 0 (gU A1 c1 A2 c2 A3 c3 A4 c4 g):=λ w' hc=>((s3.old hc).box 0 rfl).1;have hcw:∀w',Chg noB W w'->Chg noB w w':=λ w' hc=>s3.chg.trans hc;have yq:=hq W (Chg.refl _ _);simp[Zw]at yq;have t1:=(((((St.refl noB W).alloc #[.slice A1 g.terms.length c1,.slice A2 g.nons.length c2,.slice A3 g.levels.length c3,.int .i64 g.start,.slice A4 g.prods.length c4,.pointer (some ⟨bb,0,none⟩),.int .i64 20000] 112).lit 117 3 1 #[.int .i64 0,.int .i64 0,.int .i64 0] (by simp[maxLen]) rfl).push (c:=Ch.emp) trivial).push (c:=Ch.emp) trivial).push (c:=Ch.emp) trivial;have e1:(W.alloc (.cells #[.slice A1 g.terms.length c1,.slice A2 g.nons.length c2,.slice A3 g.levels.length c3,.int .i64 g.start,.slice A4 g.prods.length c4,.pointer (some ⟨bb,0,none⟩),.int .i64 20000] 112)).heap.size=W.heap.size+1:=by simp
 rw[e1]at t1;unfold Ze.b1_1;simp -dsimp[go_sem,yq,↓bCan,↓bFl0];generalize (W.alloc (.cells #[.slice A1 g.terms.length c1,.slice A2 g.nons.length c2,.slice A3 g.levels.length c3,.int .i64 g.start,.slice A4 g.prods.length c4,.pointer (some ⟨bb,0,none⟩),.int .i64 20000] 112)).alloc (.cells #[.int .i64 0,.int .i64 0,.int .i64 0] 117)=w2 at t1 |-;generalize W.heap.size=cb at t1 |-;have t2:=t1.turn (k:=1) rfl (d:=qC 3 ⟨cb+1,0,none⟩ 1 1 [.int .i64 0,.int .i64 0,.int .i64 0]) λ F h=>Znk h;have t2:St noB W w2 (canB g A1 A2 A3 A4 c1 c2 c3 c4 bb cb 20000::qC 3 ⟨cb+1,0,none⟩ ([(((0,0),0):It1)].length) 1 ([(((0,0),0):It1)].flatMap fV)::Ch.emp::Ch.emp::Ch.emp::[]):=t2;have hok0:∀z∈[(((0,0),0):It1)],ItOk g z:=by
  intro z hz;rw[Qg]at hz;subst hz;refine ⟨(Zd9 hcl).2,Qy _,?_⟩;have:=hcl.syms.t0
  cases h:g.terms with
  | nil=>rw[h]at this;cases this
  | cons x r=>simp
 have hct:=Zku env (cb:=cb) (left0:=20000) (a0:=⟨cb+1,0,none⟩) (cc0:=1) (l0:=[(((0,0),0):It1)]) t2 (by omega) (by simp) hok0;refine Zi hct ?_;rintro _ w3 ⟨left,A,c,r,rfl,hll,hrs,hrok,hrl,hrcl,X1,X3,X4,t3⟩;have t4:=((t3.lit 114 1 1 #[.slice A r.length c] (by simp[maxLen]) rfl).push (c:=Ch.all (([]:List SK).map rowS)) ⟨λ _=>0,λ i h=>absurd rfl h,λ k c h=>by simp at h⟩).into 2 6 rfl rfl (by decide);simp -dsimp[go_sem];generalize w3.alloc (.cells #[.slice A r.length c] 114)=w4 at t4 |-;generalize w3.heap.size=q3 at t4 |-;have t5:St noB W w4 (canB g A1 A2 A3 A4 c1 c2 c3 c4 bb cb left::X1::Ch.emp::X3::X4::colM (some ⟨q3,0,none⟩) 1 [((A,c,r):SK)]):=t4;have hK0:CKOk g [((A,c,r):SK)]:=⟨by simp,λ x hx=>by
  rw[Qg]at hx;subst hx
  exact ⟨hrs,hrok,by show r.length<=20000;omega⟩⟩
 have hcol0:0<left->ColI g.prods (FI g.terms.length null hs) (asOf [((A,c,r):SK)]) 0:=λ hp=>ColI.first (λ z=>hrcl hp z) hrs;have hT:=hcl.syms.t1;have hN:=hcl.syms.n1;have hbad:∀w',Chg noB W w'->R (.returned (.tuple #[.slice none 0 0,.bool false])) w':=λ w' hc=>hR _ _ ⟨hcw w' hc,Or.inl ⟨_,rfl⟩⟩;clear t1 t2 t3 t4 hct;obtain ⟨K0,hK0e⟩:∃K0,[((A,c,r):SK)]=K0:=⟨_,rfl⟩;have hlK0:K0.length=1:=by rw[<-hK0e];rfl
 rw[hK0e]at t5 hK0 hcol0;have e1:(1:Nat)=K0.length:=hlK0.symm;unfold Ze.b4;refine Ze.l6_intro _ _ _ _ _ _ _ (λ x y w'=>∃(i:Nat) (aA:Option Addr) (cA:Nat) (K:List SK) (left:Nat) (X1 X2 X3 X4:Ch),x = .slice aA K.length cA/\y = .int .i64 i/\i<=K.length/\0<K.length/\left<=20000/\CKOk g K/\(0<left->ColI g.prods (FI g.terms.length null hs) (asOf K) i)/\St noB W w' (canB g A1 A2 A3 A4 c1 c2 c3 c4 bb cb left::X1::X2::X3::X4::colM aA cA K)) (λ _ y _=>151-iv y)
  ⟨0,some ⟨q3,0,none⟩,1,K0,left,_,_,_,_,by rw[hlK0],rfl,by omega,by omega,hll,hK0,hcol0,t5⟩ ?_
 rintro _ _ w5 ⟨i,aA,cA,K,left5,Y1,Y2,Y3,Y4,rfl,rfl,hi,hKp,hl5,hK,hcol,t6⟩ C hC;have hKl:=hK.len;have wi:=wS i (by omega);simp -dsimp[go_sem];refine Za (λ p1=>?_) (λ p1=>?_)<;>simp at p1
 ·have ha:K[i]?=some K[i]:=Qb p1;obtain ⟨a,hae⟩:∃a,K[i]=a:=⟨_,rfl⟩;rw[hae]at ha;unfold Ze.b11;refine Ze.l13_intro _ _ _ _ _ _ _ _ _ (λ x y w'=>∃(sym:Nat) (aA:Option Addr) (cA:Nat) (K:List SK) (left:Nat) (X1 X2 X3 X4:Ch),x = .slice aA K.length cA/\y = .int .i64 sym/\1<=sym/\sym<=g.terms.length+g.nons.length/\i<K.length/\K[i]?=some a/\left<=20000/\CKOk g K/\(0<left->ColI g.prods (FI g.terms.length null hs) (asOf K) i/\∀s:Nat,1<=s->s<sym->(∃z,Go1 g.prods (·∈a.2.2) (s:Int) z)->∃a'∈asOf K,∀z,z∈a'↔Cl1 g.prods (FI g.terms.length null hs) (·∈behL g.prods a.2.2 s) z)/\St noB W w' (canB g A1 A2 A3 A4 c1 c2 c3 c4 bb cb left::X1::X2::X3::X4::colM aA cA K)) (λ _ y _=>g.terms.length+g.nons.length-iv y)
   ⟨1,aA,cA,K,left5,_,_,_,_,rfl,rfl,by omega,by have:=hcl.syms.n0;omega,p1,ha,hl5,hK,λ hp=>⟨hcol hp,λ s h1 h2=>by omega⟩,t6⟩ ?_
  rintro _ _ w6 ⟨sym,aA6,cA6,K6,left6,Z1,Z2,Z3,Z4,rfl,rfl,hs1,hs2,hi6,ha6,hl6,hK6,hcol6,t7⟩ D hD;have ws:=wS sym (by omega);have yq6:=hq w6 t7.chg;simp[Zw]at yq6;simp -dsimp[go_sem,yq6];have hg6:=Zx env.gr (t7.chg.below env.hB λ _ _=>id);refine Zi (Zej hg6 (by have:=t7.chg.size;have:=env.hB;omega) (by omega)) ?_;rintro _ w7 ⟨rfl,hc7⟩;have t8:=t7.old hc7;simp -dsimp[go_sem];refine Za (λ p2=>?_) (λ p2=>?_)<;>simp at p2
  ·refine Zv1 env t8 hl6 hK6 ha6 (λ hp=>(hcol6 hp).1) hbad λ w8 aA8 cA8 K8 left8 V1 V2 V3 V4 h1 ⟨t,ht⟩ h2 h3 t9=>?_;unfold Ze.b16;simp -dsimp[go_sem,ws];have ha8:K8[i]?=some a:=by rw[ht,Qf hi6];exact ha6
   refine hD _ _ _ ⟨sym+1,aA8,cA8,K8,left8,_,_,_,_,rfl,by simp,by omega,by omega,(Qa.1 ha8).1,ha8,by omega,h2,λ hp=>⟨(h3 hp).1,λ s h4 h5 h6=>?_⟩,t9⟩ (by simp[iv];omega);by_cases e:s=sym
   ·subst e;exact (h3 hp).2 h6
   ·obtain ⟨a',ha',h7⟩:=(hcol6 (by omega)).2 s h4 (by omega) h6;refine ⟨a',?_,h7⟩;rw[ht];unfold asOf at ha' |-;rw[Qu];exact Q0 _ ha'
  ·unfold Ze.b9;simp -dsimp[go_sem,wi];refine hC _ _ _ ⟨i+1,aA6,cA6,K6,left6,_,_,_,_,rfl,by simp,by omega,by omega,hl6,hK6,λ hp=>?_,t8⟩ (by simp[iv];omega);refine (hcol6 hp).1.next (a:=a.2.2) (by unfold asOf;rw[Qh,ha6];rfl) λ s ⟨z,hz⟩=>?_;obtain ⟨y,hy1,hy2,hy3⟩:=hz;have hrg:=Zj0 hy2;have hpo:=hcl;obtain ⟨hyk,_,_⟩:=(hK6.row a (Qe ha6)).2.1 _ hy1;have hsy:=(hcl.syms' (g.prods[y.1]'hyk) (Qj hyk)).2 s (by
    have:rgt g.prods y.1=(g.prods[y.1]'hyk).2.1:=by simp[rgt,hyk]
    rw[<-this];exact hrg)
   obtain ⟨sn,hsn⟩:∃n:Nat,s=n:=⟨s.toNat,by omega⟩;subst hsn;exact (hcol6 hp).2 sn (by omega) (by omega) ⟨z,y,hy1,hy2,hy3⟩
 ·have hie:i=K.length:=by omega
  have y6:=(t6.box 0 rfl).1;simp[Zw]at y6;unfold Ze.b3;simp -dsimp[go_sem,y6];have t7:=t6.old (Chg.refl noB w5).drew;obtain ⟨⟨gA,eA,_⟩,_⟩:=Zmu t7 (i:=0) (x:=K[0]) (Qb hKp);subst eA;by_cases hp:0<left5
  ·have e2:decide (0<left5)=true:=decide_eq_true hp;have hlen:(asOf K).length=K.length:=Qp ..;have hC1:=hcol hp;rw[hie,<-hlen]at hC1;refine hR _ _ ⟨hcw _ t7.chg,Or.inr ⟨null,hs,gA,cA,asOf K,by rw[hlen];simp[hp],htab,hsnd,hC1.fin,λ a ha=>?_,by omega,λ j a hj=>?_⟩⟩
   ·obtain ⟨x,hx,rfl⟩:=Qr.1 ha;obtain ⟨h1,_,h3⟩:=hK.row x hx;exact ⟨h1,h3⟩
   ·unfold asOf at hj;rw[Qh]at hj;obtain ⟨x,hx,rfl⟩:=Q4.1 hj;obtain ⟨⟨gA',eA',hcell⟩,hat⟩:=Zmu t7 hx;injection eA' with eA';injection eA' with eA';subst eA';exact ⟨x.1,x.2.1,hcell,hat⟩
  ·refine hR _ _ ⟨hcw _ t7.chg,Or.inl ⟨.slice (some ⟨gA,0,none⟩) K.length cA,?_⟩⟩;have:left5=0:=by omega
   subst this;rfl
end Go.Proofs.YtjibcckpehdbhaaGreatDoor
