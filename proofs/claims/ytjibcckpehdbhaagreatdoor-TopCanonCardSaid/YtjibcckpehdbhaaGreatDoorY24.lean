/-
  Texts of this claim: Mg4, Mg5, Mg6, Tm4, Tm5, Mg7, Mg8, Gw0, GwA, GwD, RwF1.
-/
import Derived.Test.YtjibcckpehdbhaaGreatDoorY23
import Derived.Test.YtjibcckpehdbhaaGreatDoorY17
import Derived.Test.YtjibcckpehdbhaaGreatDoorY09
import Derived.Test.YtjibcckpehdbhaaGreatDoorY11
import Derived.Test.YtjibcckpehdbhaaGreatDoorY02
import Derived.Test.YtjibcckpehdbhaaGreatDoorRows
import Derived.WalkKit
import Derived.ProofKit
import Derived.OpenShut
import Derived.Deep.DeepHandedRow
import Derived.Deep.DeepWitnessRowRef
import Derived.Test.YtjibcckpehdbhaaGreatDoorY12
import Derived.Test.YtjibcckpehdbhaaGreatDoorCards
import Derived.Test.YtjibcckpehdbhaaGreatDoorTie
import Derived.Lib.LaidTab
set_option maxHeartbeats 1000000
set_option linter.unusedSimpArgs false
set_option linter.unusedVariables false
set_option maxRecDepth 100000
namespace Go.Px.Cn
open Go.Px Go.Px.Scan Go.Proofs.YtjibcckpehdbhaaGreatDoor
theorem Zvj {K:List LRow}{i:Nat}{x:LRow}(h:K[i]?=some x)(A:Option Addr)(c:Nat)(l:List Nat):(K.flatMap lkV).set (i*3+2) (.slice A l.length c)=(K.set i (x.1,x.2.1,A,c,l)).flatMap lkV:=by
 induction K generalizing i with
 | nil=>simp at h
 | cons a K ih=>
  cases i with
  | zero=>
   simp at h;subst h;rfl
  | succ i=>
   have h:K[i]?=some x:=by simpa using h
   rw[Qan,Qa9,Qan,<-ih h,Qac _ _ (by simp[lkV];omega)];congr 2;simp[lkV];omega
theorem Zq2 {K:List LRow}{i:Nat}{x:LRow}(h:K[i]?=some x):K.set i (x.1,x.2.1,x.2.2.1,x.2.2.2.1,x.2.2.2.2)=K:=by
 have e:(x.1,x.2.1,x.2.2.1,x.2.2.2.1,x.2.2.2.2)=x:=rfl;rw[e];obtain ⟨hi,rfl⟩:=Qa.1 h;exact Qai hi
theorem R1.ok {nT:Nat}{P:Prs}{FI:List Int->Nat->Nat->Prop}(hP:0<P.length)(h0:0<nT)(hF:∀(x:It) (t u:Nat),FI ((rgt P x.1).drop (x.2+1)) t u->u<nT\/u=t){S:It1->Prop}(h:R1 P FI S):∀z,S z->z.1.1<P.length/\z.1.2<=(rgt P z.1.1).length/\z.2<nT:=by
 have cl:∀{K:It1->Prop},(∀z,K z->z.1.1<P.length/\z.1.2<=(rgt P z.1.1).length/\z.2<nT)->∀z,Cl1 P FI K z->z.1.1<P.length/\z.1.2<=(rgt P z.1.1).length/\z.2<nT:=by
  intro K hK z hz
  induction hz with
  | base h=>exact hK _ h
  | @step x t s q u _ h2 h3 h4 h5 ih=>
   refine ⟨h3,Qy _,?_⟩;rcases hF x t u h5 with h|h
   ·exact h
   ·rw[h];exact ih.2.2
 induction h with
 | start=>exact cl λ z hz=>by subst hz;exact ⟨hP,Qy _,h0⟩
 | @step S s _ _ ih=>
  refine cl λ z hz=>?_;obtain ⟨y,h1,h2,h3⟩:=hz;have h4:=ih _ h1;have h5:=ZZ11 h2;rw[h3];exact ⟨h4.1,h5,h4.2.2⟩
structure RwJ (D1:List LRow)(qs:List (Nat×Nat))(S:Nat->Nat->Nat->Prop):Prop where
 m:D1.map (λ x=>(x.1,x.2.1))=qs
 t:∀(j:Nat) x,D1[j]?=some x->x.2.2.2.2.Pairwise (· < ·)/\∀t,t∈x.2.2.2.2↔S j x.2.1 t
theorem RwJ.congr {D1:List LRow}{qs:List (Nat×Nat)}{S S':Nat->Nat->Nat->Prop}(h:RwJ D1 qs S)(hS:∀(j:Nat) x,D1[j]?=some x->∀t,S j x.2.1 t↔S' j x.2.1 t):RwJ D1 qs S' :=
 ⟨h.m,λ j x hx=>⟨(h.t j x hx).1,λ t=>((h.t j x hx).2 t).trans (hS j x hx t)⟩⟩
theorem Zlp {l:List Nat}{n:Nat}(h:l.Pairwise (· < ·))(h2:∀x∈l,x<n):l.length<=n:=nodup_le (h.imp λ h=>Nat.ne_of_lt h) h2
end Go.Px.Cn
namespace Go.Proofs.YtjibcckpehdbhaaGreatDoor
open Go.Px Go.Px.Scan Go.Px.Cn Go.RowKit
attribute [-go_sem] Builtin.append_ Zg.b3 Zg.b9 Zg.b18 Zg.b25 Zg.b32 Zg.b35_1 Zg.b35_2 Zg.b35 Zg.b34_1 Zg.b34 Zg.b27 Zg.b37 Zg.b20 Zg.b13 Zg.b43 Zg.b46_1 Zg.b46 Zg.b45_1 Zg.b45 Zg.b38 Zg.b11 Zg.b4
theorem Znt {W w:World}{A:Option Addr}{c:Nat}{D:List LRow}{M:List Ch}(s:St noB W w (lkL A c D++M)){j:Nat}{x:LRow}(hx:D[j]?=some x)(hn:x.2.2.2.2.length<=1000000)(hb:∀y∈x.2.2.2.2,y<1000000) :
  (Zq rInt).at1 w w.heap.size (.slice x.2.2.1 x.2.2.2.2.length x.2.2.2.1) (Zec x.2.2.2.2)/\∃gA,A=some ⟨gA,0,none⟩/\gA<w.heap.size/\w.cell? ⟨gA,j*3,none⟩=some (.int .i64 x.1)/\w.cell? ⟨gA,j*3+1,none⟩=some (.int .i64 x.2.1)/\w.cell? ⟨gA,j*3+2,none⟩=some (.slice x.2.2.1 x.2.2.2.2.length x.2.2.2.1)/\∀i,w.frozen? ⟨gA,i,none⟩=false:=by
 constructor
 ·obtain ⟨F,s6,_⟩:=s.inAll' 1 rfl;have hkr:(D.map lkC)[j]?=some (lkC x):=by rw[Qh,hx];rfl
  obtain ⟨F7,ho,_⟩:=s6.get hkr;unfold lkC at ho;rw[Zmw]at ho;have hle:(Zec x.2.2.2.2).length=x.2.2.2.2.length:=by unfold Zec;simp
  have:=Zki (r:=rInt) (enc:=λ y:Int=>[Value.int .i64 y]) (c':=x.2.2.2.1) ho hle.symm (λ _ _=>rfl) (by decide) (λ B y hy=>⟨rfl,?_⟩) ?_ ?_
  ·exact this
  ·unfold Zec at hy;obtain ⟨m,hm,rfl⟩:=Qr.1 hy;have:=hb m hm;exact ⟨by omega,by omega⟩
  ·obtain ⟨_,h2,_⟩:=Zee ho;exact h2
  ·obtain ⟨_,_,h3⟩:=Zee ho;exact h3
 ·obtain ⟨F,ho,_⟩:=s.get (k:=0) rfl;obtain ⟨g,e,hc,hf,_,hl⟩:=Zck ho (λ _ _=>rfl) (by decide) hx;have h0:=hc 0 _ rfl;have h1:=hc 1 _ rfl;have h2:=hc 2 _ rfl;exact ⟨g,e,hl,by simpa using h0,by simpa using h1,by simpa using h2,hf⟩
section
variable {W:World} {A1 A2 A3 A4:Option Addr} {c1 c2 c3 c4:Nat} {g:Gr} {B q gA cS:Nat} {ss:List (List It1)} {vg:Value}
structure MgR (W:World)(g:Gr)(B q:Nat)(A1:Option Addr)(c1:Nat)(A2:Option Addr)(c2:Nat)(A3:Option Addr)(c3:Nat)(A4:Option Addr)(c4:Nat)(gA:Nat)(ss:List (List It1)):Prop where
 cl:Zbn g
 gr:∀w',Chg noB W w'->GRd w' B q g A1 c1 A2 c2 A3 c3 A4 c4
 at_:∀w',Chg noB W w'->Zb7.atN w' B (.agg (gQ A1 c1 A2 c2 A3 c3 A4 c4 g)) g/\B<=w'.heap.size
 co:∀w',Chg noB W w'->CoR w' gA ss
 cs:∀a∈ss,a.Pairwise fLt/\a.length<=20000/\∀z∈a,z.1.1<g.prods.length/\z.1.2<=(rgt g.prods z.1.1).length/\z.2<g.terms.length
 sl:ss.length<=150
theorem Zjq {g:Gr}(hcl:Zbn g){x:It}:aftI g.prods x<0↔aft g.prods x=none:=by
 unfold aftI
 cases h:aft g.prods x with
 | none=>simp
 | some s=>have:=Zov hcl h;simp;omega
theorem mg_o {w:World}{A:Option Addr}{c k n:Nat}{D0 D1:List LRow}{qs:List (Nat×Nat)}{S:Nat->Nat->Prop}{M:List Ch}{a:List It1}{z:It1}{R:EP}{C6:Value->VP}{C15 C22:VP}(h:MgR W g B q A1 c1 A2 c2 A3 c3 A4 c4 gA ss)
  (hk:ss[k]?=some a) (hn:a[n]?=some z) (hS:∀p t,S p t->t<g.terms.length) (hI:RwJ D1 qs λ _=>S) (hDl:(D0++D1).length<=100000)
  (st:St noB W w (lkL A c (D0++D1)++M))
  (hgo:∀w' D1',RwJ D1' qs (λ _ p t=>S p t\/(p=z.1.1/\aft g.prods z.1=none/\t=z.2))->St noB W w' (lkL A c (D0++D1')++M)->Zg.b25 R C6 C15 C22 (.int .i64 n) w') :
  Zg.b27 R C6 C15 C22 (.slice (some ⟨gA,0,none⟩) ss.length cS) (.pointer (some ⟨q,0,none⟩)) (.slice A (D0++D1).length c) (.int .i64 D0.length) (.int .i64 k) (.int .i64 n) w:=by
 have hT:=h.cl.syms.t1;have hkl:=(Qa.1 hk).1;have hnl:=(Qa.1 hn).1;have hza:=h.cs a (Qe hk);have hz:=hza.2.2 z (Qe hn);have hq1:D1.length=qs.length:=by rw[<-hI.m];simp
 unfold Zg.b27;refine Zg.l29_intro _ _ _ _ _ _ _ _ _ _ _ (λ y w'=>∃(o:Nat) (D1':List LRow),y = .int .i64 o/\D0.length<=o/\o<=(D0++D1).length/\RwJ D1' qs (λ j p t=>S p t\/(D0.length+j<o/\p=z.1.1/\aft g.prods z.1=none/\t=z.2))/\St noB W w' (lkL A c (D0++D1')++M)) (λ y _=>(D0++D1).length-iv y)
  ⟨D0.length,D1,rfl,Ql _,by simp,hI.congr λ j x hx t=>⟨Or.inl,λ h=>h.elim id λ h=>absurd h.1 (by omega)⟩,st⟩ ?_
 rintro _ w1 ⟨o,D1',rfl,ho1,ho2,hI1,s1⟩ C hC;have hq2:D1'.length=qs.length:=by rw[<-hI1.m];simp
 have hDD:(D0++D1').length=(D0++D1).length:=by simp[hq1,hq2]
 have wo:=wS o (by omega);rw[<-hDD]at ho2 hC hDl |-;simp -dsimp only[go_sem];simp -dsimp[go_sem];refine Za (λ p1=>?_) (λ p1=>?_)<;>simp at p1
 ·have p1':o<(D0++D1').length:=by simp;omega
  obtain ⟨j,hjo⟩:∃j,o=D0.length+j:=⟨o-D0.length,by omega⟩;have hjl:j<D1'.length:=by simp at p1';omega
  obtain ⟨x,hx⟩:∃x,D1'[j]?=some x:=⟨_,Qb hjl⟩;have hxo:(D0++D1')[o]?=some x:=by rw[Qi (by omega),show o-D0.length=j by omega];exact hx
  obtain ⟨hxs,hxt⟩:=hI1.t j x hx;have hxb:∀y∈x.2.2.2.2,y<g.terms.length:=λ y hy=>by
   rcases (hxt y).1 hy with h1|⟨_,_,_,rfl⟩
   ·exact hS _ _ h1
   ·exact hz.2.2
  have hxl:=Zlp hxs hxb;obtain ⟨hrd,gD,rfl,hgl,d0,d1,d2,dfz⟩:=Znt s1 hxo (by omega) λ y hy=>by have:=hxb y hy;omega
  obtain ⟨Ai,ci,ca,hra⟩:=h.co w1 s1.chg k a hk;obtain ⟨ba,oa,rfl,_,z0,z1,z2⟩:=Zi0 hra hnl;have ez:a[n]=z:=(Qa.1 hn).2;rw[ez]at z0 z1 z2;have wj:∀D2 w',RwJ D2 qs (λ i p t=>S p t\/(D0.length+i<o+1/\p=z.1.1/\aft g.prods z.1=none/\t=z.2))->St noB W w' (lkL (some ⟨gD,0,none⟩) c (D0++D2)++M)->Zg.b32 R C6 C15 C22 C (.int .i64 o) w':=by
   intro D2 w' g1 g2;unfold Zg.b32;simp -dsimp[go_sem,wo];exact hC _ _ ⟨o+1,D2,by simp,by omega,by omega,g1,g2⟩ (by simp[iv];simp at p1';omega)
  have stay:¬(x.2.1=z.1.1/\aft g.prods z.1=none)->∀w',St noB W w' (lkL (some ⟨gD,0,none⟩) c (D0++D1')++M)->Zg.b32 R C6 C15 C22 C (.int .i64 o) w':=λ hne w' s'=>
   wj D1' w' (hI1.congr λ i y hy t=>by
    constructor
    ·rintro (h1|⟨h1,h2⟩)
     ·exact Or.inl h1
     ·exact Or.inr ⟨by omega,h2⟩
    ·rintro (h1|⟨h1,h2,h3,h4⟩)
     ·exact Or.inl h1
     ·by_cases e:i=j
      ·subst e
       rw[hx]at hy;injection hy with hy;subst hy
       exact absurd ⟨h2,h3⟩ hne
      ·exact Or.inr ⟨by omega,h2,h3,h4⟩) s'
  have hcA:Chg noB w1 (w1.alloc (.cells #[.int .i64 z.1.1,.int .i64 z.1.2] 89)):=(Chg.refl _ _).alloc _;have d1a:=hcA.at d1 id;have s2:=s1.alloc #[.int .i64 z.1.1,.int .i64 z.1.2] 89;obtain ⟨nD,hnD⟩:∃nD,(D0++D1').length=nD:=⟨_,rfl⟩;rw[hnD]at p1' |-;unfold Zg.b34;simp -dsimp[go_sem,hkl,hnl,ca,z0,z1,p1',d1a];have s2:St noB W (w1.alloc (.cells #[.int .i64 z.1.1,.int .i64 z.1.2] 89)) (lkL (some ⟨gD,0,none⟩) c (D0++D1')++M++[boxC w1.heap.size 89 [.int .i64 z.1.1,.int .i64 z.1.2]]):=s2;clear d1a;generalize w1.alloc (.cells #[.int .i64 z.1.1,.int .i64 z.1.2] 89)=w2 at s2 hcA |-;generalize w1.heap.size=zb at s2 |-;have lose:∀w',Chg noB w2 w'->St noB W w' (lkL (some ⟨gD,0,none⟩) c (D0++D1')++M):=λ w' hc=>by
   have:=(s2.old hc).take (lkL (some ⟨gD,0,none⟩) c (D0++D1')++M).length;rwa [List.take_left]at this
  refine Za (λ p2=>?_) (λ p2=>?_)<;>simp at p2
  ·have G2:=(h.gr w2 s2.chg).k;have y2:=(s2.box (lkL (some ⟨gD,0,none⟩) c (D0++D1')++M).length (by rw[Qi (Ql _)];simp;rfl)).1;simp[Zw]at y2;unfold Zg.b34_1;simp -dsimp[go_sem,G2,y2];have hd:=(Chg.refl noB w2).drew;refine Zi (Zho (h.at_ _ (s2.chg.trans hd)).1 (h.at_ _ (s2.chg.trans hd)).2 z.1 ⟨hz.1,hz.2.1⟩) ?_;rintro _ w3 ⟨rfl,hc3⟩;have hc23:=hd.trans hc3;have s3:=lose w3 hc23;simp -dsimp[go_sem];unfold Zg.b35;refine Za (λ p3=>?_) (λ p3=>?_)<;>simp at p3
   ·have haf:=(Zjq h.cl).1 p3;have hc13:=hcA.trans hc23;have d2':=hc13.at d2 id;have ca':=hc13.at ca id;have z2':=hc13.at z2 id;unfold Zg.b35_2;simp -dsimp[go_sem,hkl,hnl,ca',z2',p1',d2'];have s4:=s3.old (Chg.refl noB w3).drew;obtain ⟨hrd4,_⟩:=Znt s4 hxo (by omega) λ y hy=>by have:=hxb y hy;omega
    refine Zi (ZZ120 hrd4 (Ql _) (by omega) hxs z.2) ?_;rintro v w5 hres;have key:∀(a5:Option Addr) (c5:Nat) (l5:List Nat),l5.Pairwise (· < ·)->(∀t,t∈l5↔t∈x.2.2.2.2\/t=z.2)->v = .slice a5 l5.length c5->St noB W (w5.setCell ⟨gD,o*3+2,none⟩ (.slice a5 l5.length c5)) (lkL (some ⟨gD,0,none⟩) c (D0++D1'.set j (x.1,x.2.1,a5,c5,l5))++M)->(∀i,w5.frozen? ⟨gD,i,none⟩=false)->w5.cell? ⟨gD,o*3+2,none⟩=some (.slice x.2.2.1 x.2.2.2.2.length x.2.2.2.1)->Zg.b35_1 R C6 C15 C22 C (.slice (some ⟨gD,0,none⟩) nD c) (.int .i64 o) v w5:=by
     intro a5 c5 l5 g1 g2 g3 g4 g5 g6;subst g3;unfold Zg.b35_1;simp -dsimp[go_sem,p1',g5,g6];refine wj _ _ ⟨?_,λ i y hy=>?_⟩ g4
     ·rw[<-hI1.m,Qap];refine Qaw λ i=>?_;by_cases e:i=j
      ·subst e;rw[Qn (by simpa using hjl),Qh,hx];rfl
      ·rw[Qs (Ne.symm e)]
     ·by_cases e:i=j
      ·subst e;rw[Qn hjl]at hy;injection hy with hy;subst hy;refine ⟨g1,λ t=>?_⟩
       show t∈l5↔S x.2.1 t\/_
       rw[g2,hxt];constructor
       ·rintro ((h1|⟨h1,h2⟩)|rfl)
        ·exact Or.inl h1
        ·exact Or.inr ⟨by omega,h2⟩
        ·exact Or.inr ⟨by omega,(show x.2.1=z.1.1 by omega),haf,rfl⟩
       ·rintro (h1|⟨_,_,_,h1⟩)
        ·exact Or.inl (Or.inl h1)
        ·exact Or.inr h1
      ·rw[Qs (Ne.symm e)]at hy;refine ⟨(hI1.t i y hy).1,λ t=>((hI1.t i y hy).2 t).trans ?_⟩;constructor
       ·rintro (h1|⟨h1,h2⟩)
        ·exact Or.inl h1
        ·exact Or.inr ⟨by omega,h2⟩
       ·rintro (h1|⟨h1,h2⟩)
        ·exact Or.inl h1
        ·exact Or.inr ⟨by omega,h2⟩
    have hset:∀x',(D0++D1').set o x'=D0++D1'.set j x':=λ x'=>by rw[Qac _ _ (by omega),show o-D0.length=j by omega]
    rcases hres with ⟨hin,rfl,hc5⟩|⟨hnin,gb,cap,rfl,s5⟩
    ·have s6:=s4.old hc5;obtain ⟨_,gD',e9,_,_,_,f2,ffz⟩:=Znt s6 hxo (by omega) λ y hy=>by have:=hxb y hy;omega
     injection e9 with e9;injection e9 with e9;subst e9;refine key x.2.2.1 x.2.2.2.1 x.2.2.2.2 hxs (λ t=>⟨Or.inl,λ h=>h.elim id λ h=>h ▸ hin⟩) rfl ?_ ffz f2;have s7:=s6.setRow 0 rfl (o*3+2) (.slice x.2.2.1 x.2.2.2.2.length x.2.2.2.1);rw[Zvj hxo,Zq2 hxo]at s7;rw[<-hset,Zq2 hxo];exact s7
    ·have s6:=s4.seq s5;have s6':=s4.old s5.chg;obtain ⟨_,gD',e9,_,_,_,f2,ffz⟩:=Znt s6' hxo (by omega) λ y hy=>by have:=hxb y hy;omega
     injection e9 with e9;injection e9 with e9;subst e9;refine key (some ⟨gb,0,none⟩) cap (insN z.2 x.2.2.2.2) (Zzd hxs hnin) (λ t=>by rw[Zxh];exact or_comm) rfl ?_ ffz f2;have s7:=s6.setRow 0 rfl (o*3+2) (.slice (some ⟨gb,0,none⟩) (insN z.2 x.2.2.2.2).length cap);rw[Zvj hxo]at s7;generalize (w5.setCell ⟨gD,o*3+2,none⟩ (.slice (some ⟨gb,0,none⟩) (insN z.2 x.2.2.2.2).length cap))=w8 at s7 |-;have s8:St noB W w8 (rowC 79 3 (some ⟨gD,0,none⟩) (D0++D1').length c (((D0++D1').set o (x.1,x.2.1,some ⟨gb,0,none⟩,cap,insN z.2 x.2.2.2.2)).flatMap lkV)::Ch.all ((D0++D1').map lkC)::(M++[rowC 3 1 (some ⟨gb,0,none⟩) (insN z.2 x.2.2.2.2).length cap (nats (insN z.2 x.2.2.2.2))])):=s7;have s9:=(s8.intoAt (M.length+2) 1 o (c:=rowC 3 1 (some ⟨gb,0,none⟩) (insN z.2 x.2.2.2.2).length cap (nats (insN z.2 x.2.2.2.2))) (by simp) rfl (by omega) (by rw[Qp,hnD];exact p1')).take (M.length+2);have e:((D0++D1').map lkC).set o (rowC 3 1 (some ⟨gb,0,none⟩) (insN z.2 x.2.2.2.2).length cap (nats (insN z.2 x.2.2.2.2)))=(D0++D1'.set j (x.1,x.2.1,some ⟨gb,0,none⟩,cap,insN z.2 x.2.2.2.2)).map lkC:=by
      rw[<-hset,Qap];rfl
     rw[e,hset]at s9;have e2:(D0++D1').length=(D0++D1'.set j (x.1,x.2.1,some ⟨gb,0,none⟩,cap,insN z.2 x.2.2.2.2)).length:=by simp
     rw[e2]at s9;unfold lkL;simpa[Qac]using s9
   ·exact stay (λ h9=>by have:=(Zjq h.cl).2 h9.2;omega) _ s3
  ·unfold Zg.b35;simp -dsimp[go_sem];exact stay (λ h9=>p2 (by omega)) _ (lose _ (Chg.refl noB w2).drew)
 ·have:o=(D0++D1').length:=by simp;simp at ho2;omega
  subst this;refine hgo w1 D1' (hI1.congr λ i y hy t=>?_) s1;have:=(Qa.1 hy).1;constructor
  ·rintro (h1|⟨h1,h2⟩)
   ·exact Or.inl h1
   ·exact Or.inr h2
  ·rintro (h1|h2)
   ·exact Or.inl h1
   ·exact Or.inr ⟨by simp;omega,h2⟩
end
section
variable {W:World} {A1 A2 A3 A4:Option Addr} {c1 c2 c3 c4:Nat} {g:Gr} {B q gA cS:Nat} {ss:List (List It1)}
theorem _root_.Go.Px.Cn.RwJ.len {D1:List LRow}{qs:List (Nat×Nat)}{S:Nat->Nat->Nat->Prop}(h:RwJ D1 qs S):D1.length=qs.length:=by rw[<-h.m];simp
theorem mg_n {w:World}{A:Option Addr}{c k:Nat}{D0 D1:List LRow}{qs:List (Nat×Nat)}{S:Nat->Nat->Prop}{M:List Ch}{a:List It1}{is:Bool}{R:EP}{C6:Value->VP}{C15:VP}(h:MgR W g B q A1 c1 A2 c2 A3 c3 A4 c4 gA ss)
  (hk:ss[k]?=some a) (hS:∀p t,S p t->t<g.terms.length) (hI:RwJ D1 qs λ _=>S) (hDl:(D0++D1).length<=100000)
  (st:St noB W w (lkL A c (D0++D1)++M))
  (hgo:∀w' D1',RwJ D1' qs (λ _ p t=>S p t\/(is=true/\∃z∈a,p=z.1.1/\aft g.prods z.1=none/\t=z.2))->St noB W w' (lkL A c (D0++D1')++M)->Zg.b18 R C6 C15 (.int .i64 k) w') :
  Zg.l22 R C6 C15 (.slice (some ⟨gA,0,none⟩) ss.length cS) (.pointer (some ⟨q,0,none⟩)) (.slice A (D0++D1).length c) (.int .i64 D0.length) (.int .i64 k) (.bool is) (.int .i64 0) w:=by
 have hkl:=(Qa.1 hk).1;have hza:=h.cs a (Qe hk);refine Zg.l22_intro _ _ _ _ _ _ _ _ _ _ _ (λ y w'=>∃(n:Nat) (D1':List LRow),y = .int .i64 n/\n<=a.length/\RwJ D1' qs (λ _ p t=>S p t\/(is=true/\∃z∈a.take n,p=z.1.1/\aft g.prods z.1=none/\t=z.2))/\St noB W w' (lkL A c (D0++D1')++M)) (λ y _=>a.length-iv y)
  ⟨0,D1,rfl,Qy _,hI.congr λ j x hx t=>by simp,st⟩ ?_
 rintro _ w1 ⟨n,D1',rfl,hn,hI1,s1⟩ C hC;have hDD:(D0++D1').length=(D0++D1).length:=by simp[hI.len,hI1.len]
 have wn:=wS n (by omega);obtain ⟨Ai,ci,ca,hra⟩:=h.co w1 s1.chg k a hk;have fin:(is=false\/n=a.length)->Zg.b18 R C6 C15 (.int .i64 k) w1:=λ hf=>by
  refine hgo w1 D1' (hI1.congr λ j x hx t=>?_) s1;rcases hf with rfl|rfl
  ·simp
  ·rw[Qm]
 rw[<-hDD]at hDl |-;simp -dsimp only[go_sem];simp -dsimp[go_sem,hkl,ca];refine Za (λ p1=>?_) (λ p1=>?_)<;>simp at p1
 ·unfold Zg.b37
  cases is with
  | false=>
   simp -dsimp[go_sem];exact fin (Or.inl rfl)
  | true=>
   simp -dsimp only[go_sem];have hnz:a[n]?=some a[n]:=Qb p1;refine mg_o h hk hnz (S:=λ p t=>S p t\/(true=true/\∃z∈a.take n,p=z.1.1/\aft g.prods z.1=none/\t=z.2)) (λ p t hp=>?_) hI1 hDl s1 λ w2 D2 hI2 s2=>?_
   ·rcases hp with hp|⟨_,z,hz,_,_,rfl⟩
    ·exact hS p t hp
    ·exact (hza.2.2 z (Qda hz)).2.2
   ·unfold Zg.b25;simp -dsimp[go_sem,wn];refine hC _ _ ⟨n+1,D2,by simp,by omega,hI2.congr λ j x hx t=>?_,s2⟩ (by simp[iv];omega);rw[Qd p1];simp only[Qk,Qg];constructor
    ·rintro ((h1|⟨_,z,hz,h2⟩)|h1)
     ·exact Or.inl h1
     ·exact Or.inr ⟨trivial,z,Or.inl hz,h2⟩
     ·exact Or.inr ⟨trivial,_,Or.inr rfl,h1⟩
    ·rintro (h1|⟨_,z,hz|rfl,h2⟩)
     ·exact Or.inl (Or.inl h1)
     ·exact Or.inl (Or.inr ⟨trivial,z,hz,h2⟩)
     ·exact Or.inr h2
 ·unfold Zg.b37;simp -dsimp[go_sem];exact fin (Or.inr (by omega))
theorem mg_k {w:World}{A Ar:Option Addr}{c cr qi:Nat}{D0 D1:List LRow}{qs:List (Nat×Nat)}{r:List It}{R:EP}{C6:Value->VP}(h:MgR W g B q A1 c1 A2 c2 A3 c3 A4 c4 gA ss)
  (hI:RwJ D1 qs λ _ _ _=>False) (hDl:(D0++D1).length<=100000) (hrl:r.length<=100000)
  (st:St noB W w (lkL A c (D0++D1)++[rowC 89 2 Ar r.length cr (r.flatMap itV)]))
  (hgo:∀w' D1',RwJ D1' qs (λ _ p t=>∃a∈ss,Zdl a=r/\∃z∈a,p=z.1.1/\aft g.prods z.1=none/\t=z.2)->St noB W w' (lkL A c (D0++D1'))->Zg.b9 R C6 (.slice A (D0++D1').length c) (.int .i64 qi) w') :
  Zg.b13 R C6 (.slice (some ⟨gA,0,none⟩) ss.length cS) (.pointer (some ⟨q,0,none⟩)) (.slice A (D0++D1).length c) (.int .i64 qi) (.slice Ar r.length cr) (.int .i64 D0.length) w:=by
 have hsl:=h.sl;unfold Zg.b13;refine Zg.l15_intro _ _ _ _ _ _ _ _ _ _ (λ y w'=>∃(k:Nat) (D1':List LRow),y = .int .i64 k/\k<=ss.length/\RwJ D1' qs (λ _ p t=>∃a∈ss.take k,Zdl a=r/\∃z∈a,p=z.1.1/\aft g.prods z.1=none/\t=z.2)/\St noB W w' (lkL A c (D0++D1')++[rowC 89 2 Ar r.length cr (r.flatMap itV)])) (λ y _=>ss.length-iv y)
  ⟨0,D1,rfl,Qy _,hI.congr λ j x hx t=>by simp,st⟩ ?_
 rintro _ w1 ⟨k,D1',rfl,hk,hI1,s1⟩ C hC;have hDD:(D0++D1').length=(D0++D1).length:=by simp[hI.len,hI1.len]
 have wk:=wS k (by omega);rw[<-hDD]at hDl |-;simp -dsimp only[go_sem];simp -dsimp[go_sem];refine Za (λ p1=>?_) (λ p1=>?_)<;>simp at p1
 ·have hka:ss[k]?=some ss[k]:=Qb p1;obtain ⟨a,ha⟩:∃a,ss[k]=a:=⟨_,rfl⟩;rw[ha]at hka;have hca:=h.cs a (Qe hka);obtain ⟨Ai,ci,ca,hra⟩:=h.co w1 s1.chg k a hka;unfold Zg.b20;simp -dsimp[go_sem,p1,ca];refine Zi (ZZ39 hra (Ql _) (by omega)) ?_;rintro _ w2 ⟨Ac,cc,rfl,s2⟩;have s3:St noB W w2 (lkL A c (D0++D1')++[rowC 89 2 Ar r.length cr (r.flatMap itV),rowC 89 2 Ac (Zdl a).length cc ((Zdl a).flatMap itV)]):=by
   have:=s1.seq s2;rwa [Q5]at this
  have hcl:(Zdl a).length<=20000:=by
   have hle:∀l:List It1,(Zdl l).length<=l.length:=by
    intro l;have key:∀(l:List It1) (o:List It),(l.foldl (λ out z=>if out.getLast?=some z.1 then out else out++[z.1]) o).length<=o.length+l.length:=by
     intro l
     induction l with
     | nil=>intro o;simp
     | cons x l ih=>
      intro o;rw[List.foldl_cons];refine Qav (ih _) ?_;split<;>simp<;>omega
    have:=key l [];unfold Zdl;simpa using this
   have:=hle a;omega
  refine Zi (Zob (Zhr s3 3 rfl rfl) (Zhr s3 2 rfl rfl) (Ql _) (Ql _) (by omega)) ?_;rintro _ w4 ⟨⟨is,rfl,his⟩,hc4⟩;have s4:=s3.old hc4;refine mg_n h hka (S:=λ p t=>∃a∈ss.take k,Zdl a=r/\∃z∈a,p=z.1.1/\aft g.prods z.1=none/\t=z.2) (λ p t hp=>?_) hI1 hDl s4 λ w5 D2 hI2 s5=>?_
  ·obtain ⟨a',ha',_,z,hz,_,_,rfl⟩:=hp;exact ((h.cs a' (Qda ha')).2.2 z hz).2.2
  ·unfold Zg.b18;simp -dsimp[go_sem,wk];have s6:St noB W w5 (lkL A c (D0++D2)++[rowC 89 2 Ar r.length cr (r.flatMap itV)]):=s5.take 3;refine hC _ _ ⟨k+1,D2,by simp,by omega,hI2.congr λ j x hx t=>?_,s6⟩ (by simp[iv];omega);rw[Qd p1,ha];simp only[Qk,Qg];constructor
   ·rintro (⟨a',h1,h2⟩|⟨h1,h2⟩)
    ·exact ⟨a',Or.inl h1,h2⟩
    ·exact ⟨a,Or.inr rfl,his.1 h1,h2⟩
   ·rintro ⟨a',h1|rfl,h2,h3⟩
    ·exact Or.inl ⟨a',h1,h2,h3⟩
    ·exact Or.inr ⟨his.2 h2,h3⟩
 ·have:k=ss.length:=by omega
  subst this;rw[Qm]at hI1;exact hgo w1 D1' hI1 (s1.take 2)
theorem ZZ168 (x y:Int)(w:World):(Instr.build 79 #[(0,.int .i64 x),(1,.int .i64 y)]).run Tryz.prog w = .ok (.agg #[.int .i64 x,.int .i64 y,.slice none 0 0]) w:=by simp[go_sem]
attribute [go_sem ↓] ZZ168
def cmpP (P:Prs)(r:List It):List It:=r.filter λ x=>decide (0<x.1/\aft P x=none)
theorem Zwl (P:Prs)(r:List It)(x:It):cmpP P (r++[x])=cmpP P r++if 0<x.1/\aft P x=none then [x] else []:=by
 unfold cmpP;rw[Qae];by_cases h:0<x.1/\aft P x=none
 ·rw[if_pos h,Qaz (by simpa using h)];rfl
 ·rw[if_neg h,Qat (by simpa using h)];rfl
theorem Zyq (P:Prs)(r:List It):(cmpP P r).length<=r.length:=Qah _ _
theorem mg_i {w:World}{A Ar:Option Addr}{c cr qi:Nat}{D0:List LRow}{r:List It}{R:EP}{C6:Value->VP}(h:MgR W g B q A1 c1 A2 c2 A3 c3 A4 c4 gA ss)
  (hrl:r.length<=50000) (hD0:D0.length<=50000) (hqi:qi<=1000) (hrv:Val g.prods r)
  (st:St noB W w (lkL A c D0++[rowC 89 2 Ar r.length cr (r.flatMap itV)]))
  (hgo:∀w' A' c' D1,RwJ D1 ((cmpP g.prods r).map λ x=>(qi,x.1)) (λ _ p t=>∃a∈ss,Zdl a=r/\∃z∈a,p=z.1.1/\aft g.prods z.1=none/\t=z.2)->St noB W w' (lkL A' c' (D0++D1))->Zg.b9 R C6 (.slice A' (D0++D1).length c') (.int .i64 qi) w') :
  Zg.b38 R C6 (.slice (some ⟨gA,0,none⟩) ss.length cS) (.pointer (some ⟨q,0,none⟩)) (.slice A D0.length c) (.int .i64 qi) (.slice Ar r.length cr) (.int .i64 D0.length) w:=by
 unfold Zg.b38;refine Zg.l40_intro _ _ _ _ _ _ _ _ _ _ (λ x y w'=>∃(i:Nat) (A':Option Addr) (c':Nat) (D1:List LRow),x = .slice A' (D0++D1).length c'/\y = .int .i64 i/\i<=r.length/\RwJ D1 ((cmpP g.prods (r.take i)).map λ x=>(qi,x.1)) (λ _ _ _=>False)/\St noB W w' (lkL A' c' (D0++D1)++[rowC 89 2 Ar r.length cr (r.flatMap itV)])) (λ _ y _=>r.length-iv y)
  ⟨0,A,c,[],by simp,rfl,Qy _,⟨rfl,λ j x hx=>by simp at hx⟩,by simpa using st⟩ ?_
 rintro _ _ w1 ⟨i,A',c',D1,rfl,rfl,hi,hI,s1⟩ C hC;have wi:=wS i (by omega);have hDl:=hI.len;rw[Qp]at hDl;have hcl:=Zyq g.prods (r.take i);rw[Q6]at hcl;have hDD:(D0++D1).length<=100000:=by simp;omega
 simp -dsimp only[go_sem];simp -dsimp[go_sem];refine Za (λ p1=>?_) (λ p1=>?_)<;>simp at p1
 ·obtain ⟨b,o,e9,_,k1,k2⟩:=Zgv (Zhr s1 2 rfl rfl) p1;subst e9;obtain ⟨x,hx⟩:∃x,r[i]=x:=⟨_,rfl⟩;have hxv:=hrv _ (Qj p1);rw[hx]at k1 k2 hxv;have htk:cmpP g.prods (r.take (i+1))=cmpP g.prods (r.take i)++if 0<x.1/\aft g.prods x=none then [x] else []:=by
   rw[Qd p1,Zwl,hx]
  have G1:=(h.gr w1 s1.chg).k;have hd:=(Chg.refl noB w1).drew;obtain ⟨nD,hnD⟩:∃nD,(D0++D1).length=nD:=⟨_,rfl⟩;have stay:¬(0<x.1/\aft g.prods x=none)->∀w',Chg noB w1 w'->Zg.b43 R C6 C (.slice A' (D0++D1).length c') (.int .i64 i) w':=λ hne w' hc=>by
   unfold Zg.b43;simp -dsimp only[go_sem];simp -dsimp[go_sem,wi];refine hC _ _ _ ⟨i+1,A',c',D1,by simp,by simp,by omega,?_,s1.old hc⟩ (by simp[iv];omega);rw[htk,if_neg hne,Qas];exact hI
  rw[hnD]at stay |-;unfold Zg.b45;simp -dsimp[go_sem,p1,k1];refine Za (λ p2=>?_) (λ p2=>?_)<;>simp at p2
  ·unfold Zg.b45_1;simp -dsimp[go_sem,p1,k1,k2,G1];refine Zi (Zho (h.at_ _ (s1.chg.trans hd)).1 (h.at_ _ (s1.chg.trans hd)).2 x hxv) ?_;rintro _ w3 ⟨rfl,hc3⟩;have hc13:=hd.trans hc3;simp -dsimp[go_sem];unfold Zg.b46;refine Za (λ p3=>?_) (λ p3=>?_)<;>simp at p3
   ·have haf:=(Zjq h.cl).1 p3;have s3:=s1.old hc13;have k1':=hc13.at k1 id;unfold Zg.b46_1;simp -dsimp[go_sem,p1,k1'];have s3:St noB W w3 (rowC 79 3 A' nD c' ((D0++D1).flatMap lkV)::Ch.all ((D0++D1).map lkC)::[rowC 89 2 (some ⟨b,o,none⟩) r.length cr (r.flatMap itV)]):=by rw[<-hnD];exact s3
    refine s3.append1 0 (e:=79) (size:=3) rfl uLook iLook rfl (by decide) (news:=lkV (qi,x.1,none,0,[])) rfl (λ u hu=>by simp[lkV]at hu;rcases hu with rfl | rfl | rfl<;>rfl) (by unfold maxLen;omega) (by unfold Zaf;omega) ?_;intro gN cap w4 s4;have s5:St noB W w4 (rowC 79 3 (some ⟨gN,0,none⟩) (nD+1) cap ((D0++D1).flatMap lkV++lkV (qi,x.1,none,0,[]))::Ch.all ((D0++D1).map lkC)::[rowC 89 2 (some ⟨b,o,none⟩) r.length cr (r.flatMap itV)]):=s4;have s6:=((s5.nilRow 3 1).pick [0,2,1,3] (by decide) (L':=[rowC 79 3 (some ⟨gN,0,none⟩) (nD+1) cap ((D0++D1).flatMap lkV++lkV (qi,x.1,none,0,[])),rowC 89 2 (some ⟨b,o,none⟩) r.length cr (r.flatMap itV),Ch.all ((D0++D1).map lkC),rowC 3 1 none 0 0 []]) rfl);have s7:=St.allSnoc (L:=[rowC 79 3 (some ⟨gN,0,none⟩) (nD+1) cap ((D0++D1).flatMap lkV++lkV (qi,x.1,none,0,[])),rowC 89 2 (some ⟨b,o,none⟩) r.length cr (r.flatMap itV)]) s6;have e1:(D0++D1).flatMap lkV++lkV (qi,x.1,none,0,[])=(D0++(D1++[((qi,x.1,none,0,[]):LRow)])).flatMap lkV:=by simp
    have e2:(D0++D1).map lkC++[rowC 3 1 none 0 0 []]=(D0++(D1++[((qi,x.1,none,0,[]):LRow)])).map lkC:=by simp;rfl
    have e3:nD+1=(D0++(D1++[((qi,x.1,none,0,[]):LRow)])).length:=by rw[<-hnD];simp;omega
    rw[e1,e2]at s7;have s8:=s7.pick [0,2,1] (by decide) (L':=[rowC 79 3 (some ⟨gN,0,none⟩) (nD+1) cap ((D0++(D1++[((qi,x.1,none,0,[]):LRow)])).flatMap lkV),Ch.all ((D0++(D1++[((qi,x.1,none,0,[]):LRow)])).map lkC),rowC 89 2 (some ⟨b,o,none⟩) r.length cr (r.flatMap itV)]) rfl;unfold Zg.b43;simp -dsimp[go_sem,wi];rw[e3]at s8 |-;refine hC _ _ _ ⟨i+1,_,cap,D1++[(qi,x.1,none,0,[])],rfl,by simp,by omega,⟨?_,λ j y hy=>?_⟩,s8⟩ (by simp[iv];omega)
    ·rw[htk,if_pos ⟨by omega,haf⟩,Qu,Qu,hI.m];rfl
    ·by_cases hj:j<D1.length
     ·rw[Qf hj]at hy;exact hI.t j y hy
     ·rw[Qi (by omega)]at hy;have:y=(qi,x.1,none,0,[]):=by
       have:=Qe hy;simpa using this
      subst this;exact ⟨List.Pairwise.nil,λ t=>by simp⟩
   ·exact stay (λ h9=>by have:=(Zjq h.cl).2 h9.2;omega) _ hc13
  ·unfold Zg.b46;simp -dsimp[go_sem];exact stay (λ h9=>by omega) _ hd
 ·have:i=r.length:=by omega
  subst this;rw[Qm]at hI;exact mg_k h hI hDD (by omega) s1 λ w2 D2 hI2 s2=>hgo w2 A' c' D2 hI2 s2
end
end Go.Proofs.YtjibcckpehdbhaaGreatDoor
namespace Go.Px.Cn
open Go.Px Go.Px.Scan Go.Proofs.YtjibcckpehdbhaaGreatDoor
theorem CoR.keep {w w':World}{gA:Nat}{ss:List (List It1)}(h:CoR w gA ss)(hc:Chg noB w w'):CoR w' gA ss:=by
 intro i l hl;obtain ⟨a,c,h1,h2⟩:=h i l hl;exact ⟨a,c,hc.at h1 id,Rep.up (Rep.below h2 (hc.below (Ql _) λ _ _=>id)) hc.size⟩
def MgT (P:Prs)(ks:List (List It))(ss:List (List It1))(q p t:Nat):Prop:=∃l,ks[q]?=some l/\∃a∈ss,(∀y,Core (·∈a) y↔Cl0 P (·∈l) y)/\((p,(rgt P p).length),t)∈a
structure MgI (P:Prs)(ks:List (List It))(ss:List (List It1))(D:List LRow)(q:Nat):Prop where
 srt:(D.map lkP).Pairwise λ a b=>a.1<b.1\/a.1=b.1/\a.2.1<b.2.1
 lt:∀x∈D,x.1<q
 mem:∀q' p,q'<q->((∃x∈D,x.1=q'/\x.2.1=p)↔0<p/\p<P.length/\InCl P ks q' (p,(rgt P p).length))
 tsr:∀x∈D,x.2.2.2.2.Pairwise (· < ·)
 tmm:∀x∈D,∀t,t∈x.2.2.2.2↔MgT P ks ss x.1 x.2.1 t
 len:D.length<=q*P.length
theorem Zjs {P:Prs}{x:It}(h:aft P x=none)(h2:x.2<=(rgt P x.1).length):x.2=(rgt P x.1).length:=by
 unfold aft at h;have:=List.getElem?_eq_none_iff.1 h;omega
theorem MgI.step {P:Prs}{ks:List (List It)}{ss:List (List It1)}{D D1:List LRow}{q:Nat}{l r:List It}(h:MgI P ks ss D q)(hl:ks[q]?=some l)(hrs:r.Pairwise itLt)(hrm:∀x,x∈r↔Cl0 P (·∈l) x)(hrv:Val P r)
  (hss:∀a∈ss,a.Pairwise fLt/\∀z∈a,z.1.2<=(rgt P z.1.1).length)
  (hI:RwJ D1 ((cmpP P r).map λ x=>(q,x.1)) (λ _ p t=>∃a∈ss,Zdl a=r/\∃z∈a,p=z.1.1/\aft P z.1=none/\t=z.2)):MgI P ks ss (D++D1) (q+1):=by
 have hcm:∀x,x∈cmpP P r↔x∈r/\0<x.1/\aft P x=none:=λ x=>by unfold cmpP;rw[Qz];simp
 have hcs:(cmpP P r).Pairwise λ x y=>x.1<y.1:=by
  have h1:(cmpP P r).Pairwise itLt:=hrs.filter _;refine List.Pairwise.imp_of_mem (λ {x y} hx hy hxy=>?_) h1;obtain ⟨a1,_,a3⟩:=(hcm x).1 hx;obtain ⟨b1,_,b3⟩:=(hcm y).1 hy;have e1:=Zjs a3 (hrv x a1).2;have e2:=Zjs b3 (hrv y b1).2;rcases hxy with h|⟨h,h2⟩
  ·exact h
  ·rw[e1,e2,h]at h2;omega
 have hD1:∀x∈D1,x.1=q/\∃y∈cmpP P r,x.2.1=y.1:=λ x hx=>by
  have:(x.1,x.2.1)∈D1.map (λ x=>(x.1,x.2.1)):=Qr.2 ⟨x,hx,rfl⟩;rw[hI.m]at this;obtain ⟨y,hy,e⟩:=Qr.1 this;injection e with e1 e2;exact ⟨e1.symm,y,hy,e2.symm⟩
 have hD1s:(D1.map lkP).Pairwise λ a b=>a.1<b.1\/a.1=b.1/\a.2.1<b.2.1:=by
  have h1:(D1.map λ x=>(x.1,x.2.1)).Pairwise λ a b=>a.1<b.1\/a.1=b.1/\a.2<b.2:=by
   rw[hI.m,Qbk];exact hcs.imp λ h=>Or.inr ⟨rfl,h⟩
  rw[Qbk]at h1 |-;exact h1
 have hcore:∀a∈ss,Zdl a=r↔∀y,Core (·∈a) y↔Cl0 P (·∈l) y:=λ a ha=>by
  constructor
  ·rintro rfl y;rw[<-Zj5,hrm]
  ·intro hy;refine Zkp (Zwq (hss a ha).1).1 hrs λ y=>?_;rw[Zj5,hy,hrm]
 refine ⟨?_,λ x hx=>?_,λ q' p hq'=>?_,λ x hx=>?_,λ x hx t=>?_,?_⟩
 ·rw[Qu,Qao];refine ⟨h.srt,hD1s,λ a ha b hb=>?_⟩;obtain ⟨x,hx,rfl⟩:=Qr.1 ha;obtain ⟨y,hy,rfl⟩:=Qr.1 hb;have h1:=h.lt x hx;have h2:=(hD1 y hy).1;exact Or.inl (by show x.1<y.1;omega)
 ·rcases Qk.1 hx with hx|hx
  ·have:=h.lt x hx;omega
  ·have:=(hD1 x hx).1;omega
 ·by_cases e:q'=q
  ·subst e;constructor
   ·rintro ⟨x,hx,h1,rfl⟩;rcases Qk.1 hx with hx|hx
    ·have:=h.lt x hx;omega
    ·obtain ⟨_,y,hy,e⟩:=hD1 x hx;obtain ⟨a1,a2,a3⟩:=(hcm y).1 hy;have hv:=hrv y a1;have e1:=Zjs a3 hv.2;rw[e];refine ⟨a2,hv.1,l,hl,?_⟩;have:=(hrm y).1 a1;rw[show y=(y.1,(rgt P y.1).length) by rw[<-e1]]at this;exact this
   ·rintro ⟨h1,h2,l',hl',h3⟩;rw[hl]at hl';injection hl' with hl';subst hl';have hy:(p,(rgt P p).length)∈cmpP P r:=(hcm _).2 ⟨(hrm _).2 h3,h1,by unfold aft;simp⟩;have:(q',p)∈D1.map (λ x=>(x.1,x.2.1)):=by rw[hI.m];exact Qr.2 ⟨_,hy,rfl⟩
    obtain ⟨x,hx,e⟩:=Qr.1 this;injection e with e1 e2;exact ⟨x,Qa2 _ hx,e1,e2⟩
  ·rw[<-h.mem q' p (by omega)];constructor
   ·rintro ⟨x,hx,h1,h2⟩;rcases Qk.1 hx with hx|hx
    ·exact ⟨x,hx,h1,h2⟩
    ·have:=(hD1 x hx).1;omega
   ·rintro ⟨x,hx,h1⟩;exact ⟨x,Q0 _ hx,h1⟩
 ·rcases Qk.1 hx with hx|hx
  ·exact h.tsr x hx
  ·obtain ⟨j,hj⟩:=Qo.1 hx;exact (hI.t j x hj).1
 ·rcases Qk.1 hx with hx|hx
  ·exact h.tmm x hx t
  ·obtain ⟨j,hj⟩:=Qo.1 hx;rw[(hI.t j x hj).2,(hD1 x hx).1];constructor
   ·rintro ⟨a,ha,hc,z,hz,h1,h2,rfl⟩;refine ⟨l,hl,a,ha,(hcore a ha).1 hc,?_⟩;have e1:=Zjs h2 ((hss a ha).2 z hz);rw[h1,<-e1];exact hz
   ·rintro ⟨l',hl',a,ha,hc,hz⟩;rw[hl]at hl';injection hl' with hl';subst hl';exact ⟨a,ha,(hcore a ha).2 hc,_,hz,rfl,by unfold aft;simp,rfl⟩
 ·have hl1:=hI.len;rw[Qp]at hl1;have hnd:((cmpP P r).map (·.1)).Nodup:=by
   have:((cmpP P r).map (·.1)).Pairwise (· < ·):=by rw[Qbk];exact hcs
   exact this.imp λ h=>Nat.ne_of_lt h
  have:=nodup_le hnd (n:=P.length) λ p hp=>by
   obtain ⟨y,hy,rfl⟩:=Qr.1 hp;exact (hrv y ((hcm y).1 hy).1).1
  rw[Qp]at this;have:=h.len;rw[Qq,Qbw];omega
theorem MgI.ok {P:Prs}{ks:List (List It)}{ss:List (List It1)}{D:List LRow}(h:MgI P ks ss D ks.length):LkOk P ks (MgT P ks ss) (D.map lkP):=by
 refine ⟨h.srt,λ q p=>?_,λ x hx=>?_,λ x hx t=>?_⟩
 ·have hm:(∃ts,(q,p,ts)∈D.map lkP)↔∃x∈D,x.1=q/\x.2.1=p:=by
   constructor
   ·rintro ⟨ts,h1⟩;obtain ⟨x,hx,e⟩:=Qr.1 h1;injection e with e1 e2;injection e2 with e2 e3;exact ⟨x,hx,e1,e2⟩
   ·rintro ⟨x,hx,rfl,rfl⟩;exact ⟨_,Qr.2 ⟨x,hx,rfl⟩⟩
  rw[hm];by_cases hq:q<ks.length
  ·exact h.mem q p hq
  ·constructor
   ·rintro ⟨x,hx,h1,_⟩;have:=h.lt x hx;omega
   ·rintro ⟨_,_,l,hl,_⟩;exact absurd (Qa.1 hl).1 hq
 ·obtain ⟨y,hy,rfl⟩:=Qr.1 hx;exact h.tsr y hy
 ·obtain ⟨y,hy,rfl⟩:=Qr.1 hx;exact h.tmm y hy t
end Go.Px.Cn
namespace Go.Proofs.YtjibcckpehdbhaaGreatDoor
open Go.Px Go.Px.Scan Go.Px.Cn Go.RowKit
attribute [-go_sem] Builtin.append_ Zg.b3 Zg.b9 Zg.b18 Zg.b25 Zg.b32 Zg.b35_1 Zg.b35_2 Zg.b35 Zg.b34_1 Zg.b34 Zg.b27 Zg.b37 Zg.b20 Zg.b13 Zg.b43 Zg.b46_1 Zg.b46 Zg.b45_1 Zg.b45 Zg.b38 Zg.b11 Zg.b4
theorem Zuc {w:World}{B:Nat}{vg:Value}{g:Gr}{Ak:Option Addr}{ck gA cS:Nat}{asked intr:Int}{ks:List (List It)}{ess:List (List (Int×Nat))}{ss:List (List It1)}(hg:Zb7.atN w B vg g)(hB:B<=w.heap.size)(hP:AutP g ks ess)(hst:StR w Ak ks)
  (hco:CoR w gA ss) (hsl:ss.length<=150) (hcs:∀a∈ss,a.Pairwise fLt/\a.length<=20000/\∀z∈a,z.1.1<g.prods.length/\z.1.2<=(rgt g.prods z.1.1).length/\z.2<g.terms.length) :
  Ct Tryz.prog Zg.id #[vg,.agg #[.slice Ak ks.length ck,.int .i64 asked,.int .i64 intr],.slice (some ⟨gA,0,none⟩) ss.length cS] w λ v w'=>∃A c D,v = .slice A D.length c/\LkOk g.prods ks (MgT g.prods ks ss) (D.map lkP)/\D.length<=30000/\St noB w w' (lkL A c D):=by
 refine Zg.ct λ R hR=>?_;obtain ⟨A1,c1,A2,c2,A3,c3,A4,c4,rfl,⟨m1,m2,m3,m4⟩,hst0,hc0,hgr⟩:=Zbg hg hB;have s1:=(St.refl noB w).alloc (gQ A1 c1 A2 c2 A3 c3 A4 c4 g) 27;have s2:=s1.alloc #[.slice Ak ks.length ck,.int .i64 asked,.int .i64 intr] 34;have hc2:Chg noB (w.alloc (.cells (gQ A1 c1 A2 c2 A3 c3 A4 c4 g) 27)) ((w.alloc (.cells (gQ A1 c1 A2 c2 A3 c3 A4 c4 g) 27)).alloc (.cells #[.slice Ak ks.length ck,.int .i64 asked,.int .i64 intr] 34)):=(Chg.refl _ _).alloc _;unfold Zg.run;simp -dsimp[go_sem];have e1:(w.alloc (.cells (gQ A1 c1 A2 c2 A3 c3 A4 c4 g) 27)).heap.size=w.heap.size+1:=by simp
 rw[e1]at s2;generalize hW1:w.alloc (.cells (gQ A1 c1 A2 c2 A3 c3 A4 c4 g) 27)=w1 at s1 s2 hc0 hc2 hgr |-;generalize w1.alloc (.cells #[.slice Ak ks.length ck,.int .i64 asked,.int .i64 intr] 34)=w2 at s2 hc2 |-;obtain ⟨ab,hab⟩:∃ab,w.heap.size+1=ab:=⟨_,rfl⟩;rw[hab]at s2 |-;generalize w.heap.size=q at s1 s2 hgr |-;have hcw2:=s2.chg;have hR2:MgR w2 g B q A1 c1 A2 c2 A3 c3 A4 c4 gA ss:=⟨hP.cl,λ w' hc=>hgr w' (hc2.trans hc),λ w' hc=>⟨Zx hg ((hcw2.trans hc).below hB λ _ _=>id),by have:=(hcw2.trans hc).size;omega⟩,λ w' hc=>CoR.keep hco (hcw2.trans hc),hcs,hsl⟩;have hab2:∀w',Chg noB w2 w'->w'.cell? ⟨ab,0,none⟩=some (.slice Ak ks.length ck):=λ w' hc=>by
  have:=((s2.old hc).box 1 rfl).1;simp[Zw]at this;exact this.1
 have hst2:∀w',Chg noB w2 w'->StR w' Ak ks:=λ w' hc=>StR.keep hst (hcw2.trans hc);have hkl:=hP.len;have hpl:=hP.cl.prods.c1;have s3:St noB w2 w2 (lkL none 0 []):=((St.refl noB w2).nilRow 79 3).push (c:=Ch.all (([]:List LRow).map lkC)) ⟨λ _=>0,λ i h=>absurd rfl h,λ k c h=>by simp at h⟩;unfold Zg.b4;refine Zg.l6_intro _ _ _ _ _ _ _ (λ x y w'=>∃(i:Nat) (A:Option Addr) (c:Nat) (D:List LRow),x = .slice A D.length c/\y = .int .i64 i/\i<=ks.length/\MgI g.prods ks ss D i/\St noB w2 w' (lkL A c D)) (λ _ y _=>ks.length-iv y)
  ⟨0,none,0,[],rfl,rfl,Qy _,⟨List.Pairwise.nil,by simp,λ q' p h=>by omega,by simp,by simp,by simp⟩,s3⟩ ?_
 rintro _ _ w4 ⟨i,A,c,D,rfl,rfl,hi,hI,s4⟩ C hC;have wi:=wS i (by omega);have hDl:=hI.len;have hDl2:D.length<=256*97:=Qav hDl (Qco (by omega) hpl);have y4:=hab2 w4 s4.chg;simp -dsimp[go_sem,y4];refine Za (λ p1=>?_) (λ p1=>?_)<;>simp at p1
 ·have hl:ks[i]?=some ks[i]:=Qb p1;obtain ⟨l,hle⟩:∃l,ks[i]=l:=⟨_,rfl⟩;rw[hle]at hl;obtain ⟨v1,v2,v3,v4,v5⟩:=hP.val l (Qe hl);obtain ⟨gs,a,ca,eA,hcell,_⟩:=hst2 w4 s4.chg i l hl;have hd:=(Chg.refl noB w4).drew;have s5:=s4.old hd;obtain ⟨gs',a',ca',eA',hcell',hat⟩:=hst2 w4.drew s5.chg i l hl;rw[eA]at eA';injection eA' with eA';injection eA' with eA' _ _;subst eA';have:a'=a/\ca'=ca:=by
   have h1:=hd.at hcell id;rw[hcell']at h1;injection h1 with h1;injection h1 with h1 _ h2;injection h1 with h1;exact ⟨h1,h2⟩
  obtain ⟨rfl,rfl⟩:=this;have G4:=(hR2.gr w4 s4.chg).k;subst eA;unfold Zg.b11;simp -dsimp[go_sem,G4,y4,p1,hcell];refine Zi (Zs0 (hR2.at_ _ s5.chg).1 (hR2.at_ _ s5.chg).2 hP.cl hat (Ql _) (by omega) v1) ?_;rintro _ w6 ⟨Ar,cr,r,rfl,hrs,hrm,hrl,s6⟩;have s7:=s5.seq s6;have hrv:Val g.prods r:=by
   intro x hx;have hx:=(hrm x).1 hx
   cases hx with
   | base h=>exact v1 x h
   | step _ _ h _=>exact ⟨h,Qy _⟩
  simp -dsimp[go_sem];refine mg_i hR2 (by omega) (by omega) (by omega) hrv s7 λ w8 A8 c8 D1 hJ s8=>?_;unfold Zg.b9;obtain ⟨nD,hnD⟩:∃nD,(D++D1).length=nD:=⟨_,rfl⟩;rw[hnD];simp -dsimp[go_sem,wi];refine hC _ _ _ ⟨i+1,A8,c8,D++D1,by rw[hnD],by simp,by omega,hI.step hl hrs hrm hrv (λ a ha=>⟨(hcs a ha).1,λ z hz=>((hcs a ha).2.2 z hz).2.1⟩) hJ,s8⟩ (by simp[iv];omega)
 ·have:i=ks.length:=by omega
  subst this;unfold Zg.b3;exact hR _ _ ⟨A,c,D,rfl,hI.ok,by omega,s4.lower hcw2⟩
attribute [-go_sem] Zr.b3 Zr.b14 Zr.b23 Zr.b26 Zr.b26_1 Zr.b25_1 Zr.b25 Zr.b18 Zr.b28 Zr.b27_1 Zr.b27 Zr.b9 Zr.b4 Zr.b1_1 Zr.b1_2
theorem SndM.put {nT:Nat}{P:Prs}{ms:List Bool}(h:SndM nT P ms){j:Nat}{b:Bool}(hj:b=true->Pd nT P ((nT:Int)+j)):SndM nT P (ms.set j b):=by
 intro i hi;by_cases e:j=i
 ·subst e;rw[Qc,List.getElem?_set_self']at hi
  cases b with
  | true=>exact hj rfl
  | false=>cases hx:ms[j]?<;>simp[hx]at hi
 ·refine h i ?_;rw[Qc,Qs e]at hi;rw[Qc];exact hi
theorem ZZ90 {w:World}{B:Nat}{vg:Value}{g:Gr}(hg:Zb7.atN w B vg g)(hB:B<=w.heap.size)(hcl:Zbn g) :
  Ct Tryz.prog Zr.id #[vg] w λ v w'=>∃m ms,v = .slice (some ⟨m,0,none⟩) ms.length ms.length/\ms.length=g.nons.length/\St noB w w' [rowC 4 1 (some ⟨m,0,none⟩) ms.length ms.length (Zaz ms)]/\SndM g.terms.length g.prods ms:=by
 refine Zr.ct λ R hR=>?_;obtain ⟨A1,c1,A2,c2,A3,c3,A4,c4,rfl,⟨m1,m2,m3,m4⟩,hst,hc0,hgr⟩:=Zbg hg hB;have hr4:(Zq rPr).at1 w B (.slice A4 g.prods.length c4) g.prods:=by obtain ⟨_,_,_,_,_,_,_,_,e,_,_,_,_,h5,_⟩:=(Zcg hg).ex;injection e with e;injection e with e;simp at e;rw[e.2.2.2.1,e.2.2.2.2];exact h5
 have hr2:(Zq rStr).at1 w B (.slice A2 g.nons.length c2) g.nons:=by obtain ⟨_,_,_,_,_,_,_,_,e,_,h5,_⟩:=(Zcg hg).ex;injection e with e;injection e with e;simp at e;rw[e.2.1.1,e.2.1.2];exact h5
 have hT:=hcl.syms.t1;have hN:=hcl.syms.n1;have hn0:=hcl.syms.n0;have hs0:=hcl.prods.s0;have hs1:=hcl.prods.s1;have s1:=(St.refl noB w).alloc (gQ A1 c1 A2 c2 A3 c3 A4 c4 g) 27;unfold Zr.run;have y1:=(hgr _ (Chg.refl _ _)).k;simp -dsimp[go_sem,y1];have hb1:=s1.chg.below hB λ _ _=>id;have hB1:B<=(w.alloc (.cells (gQ A1 c1 A2 c2 A3 c3 A4 c4 g) 27)).heap.size:=by have:=s1.chg.size;omega
 have hg1:=Zx hg hb1;clear y1;generalize w.alloc (.cells (gQ A1 c1 A2 c2 A3 c3 A4 c4 g) 27)=w1 at s1 hc0 hgr hb1 hB1 hg1 |-;generalize w.heap.size=q at s1 hgr |-;refine Zi (Zy2 hg1 hB1 hcl) ?_;rintro _ w2 ⟨m,may,rfl,hml,sm,hmay⟩;have s2:=s1.seq sm;have y2:=(s2.box 0 rfl).1;obtain ⟨N,hNe⟩:∃N,g.nons.length=N:=⟨_,rfl⟩;have s3:=s2.lit 4 1 N (Array.replicate N (Value.bool false)) (by unfold maxLen;omega) (by simp);have e0:(Array.replicate N (Value.bool false)).toList=Zaz (List.replicate N false):=by simp[Zaz]
 rw[e0]at s3;obtain ⟨CB,hCB⟩:∃CB,boxC q 27 [.slice A1 g.terms.length c1,.slice A2 N c2,.slice A3 g.levels.length c3,.int .i64 g.start,.slice A4 g.prods.length c4]=CB:=⟨_,rfl⟩;simp only[gQ]at s3;rw[hNe]at s3;rw[hNe]at hml hs1;have hst1:∃js:Nat,g.start-(g.terms.length:Int)=js:=⟨(g.start-(g.terms.length:Int)).toNat,by omega⟩;obtain ⟨js,hjs⟩:=hst1;have wj:IntKind.i64.wrap (g.start-(g.terms.length:Int))=(js:Int):=by rw[hjs];exact IntWalk.i64_in _ (by omega)
 have hjl:js<N:=by omega
 have y21:=y2.2.1;rw[hNe]at y21;have hmk:=Zg2 w2 N (by unfold Zaf;omega);generalize w2.alloc (.cells (Array.replicate N (Value.bool false)) 4)=w3 at s3 hmk;generalize w2.heap.size=o at s3 hmk;have s3:St noB w w3 [boxC q 27 (.slice A1 g.terms.length c1::[.slice A2 N c2,.slice A3 g.levels.length c3,.int .i64 g.start,.slice A4 g.prods.length c4]),rowC 4 1 (some ⟨m,0,none⟩) may.length may.length (Zaz may),rowC 4 1 (some ⟨o,0,none⟩) N N (Zaz (List.replicate N false))]:=s3;have y3:=(s3.box 0 rfl).1;simp[Zw]at y3;have hjm:js<may.length:=by omega
 obtain ⟨cm,_⟩:=Zdo s3 (k:=1) rfl (ms:=may) (j:=js) hjm;obtain ⟨co,fo⟩:=Zdo s3 (k:=2) rfl (ms:=List.replicate N false) (j:=js) (by simpa using hjl);obtain ⟨bs,hbs⟩:∃b,may[js]=b:=⟨_,rfl⟩;rw[hbs]at cm;have s4:=Zfl s3 (k:=2) rfl (ms:=List.replicate N false) js bs;unfold Zr.b1_2;simp -dsimp[go_sem,y21,hmk,y3,wj,hml,hjl,cm,co,fo];have hpst:bs=true->Pd g.terms.length g.prods g.start:=λ hb=>by
  have:=hmay js (by rw[Qc,Qb hjm,hbs,hb];rfl);rw[<-hjs,show (g.terms.length:Int)+(g.start-(g.terms.length:Int))=g.start by omega]at this;exact this
 have hp0:bs=true->Pd g.terms.length g.prods g.terms.length:=λ hb=>by
  have ha:=hcl.added;have hm0:((g.terms.length:Int),[g.start],(0:Int))∈g.prods:=List.mem_of_mem_head? ha;exact Pd.non hm0 λ s hs=>by simp at hs;subst hs;exact hpst hb
 have hsn4:SndM g.terms.length g.prods ((List.replicate N false).set js bs):=by
  cases bs with
  | true=>exact (SndM.none _ _ _).mark (by rw[<-hjs,show (g.terms.length:Int)+(g.start-(g.terms.length:Int))=g.start by omega];exact hpst rfl)
  | false=>
   have e:(List.replicate N false).set js false=List.replicate N false:=by
    apply List.ext_getElem (by simp);intro i h1 h2;rw[List.getElem_set];split<;>simp
   rw[e];exact SndM.none _ _ _
 generalize w3.setCell ⟨o,js,none⟩ (.bool bs)=w4 at s4 |-;have s4:St noB w w4 [boxC q 27 (.slice A1 g.terms.length c1::[.slice A2 N c2,.slice A3 g.levels.length c3,.int .i64 g.start,.slice A4 g.prods.length c4]),rowC 4 1 (some ⟨m,0,none⟩) may.length may.length (Zaz may),rowC 4 1 (some ⟨o,0,none⟩) N N (Zaz ((List.replicate N false).set js bs))]:=s4;have hl4:((List.replicate N false).set js bs).length=N:=by simp
 generalize (List.replicate N false).set js bs=out4 at s4 hsn4 hl4;clear y3 cm co fo s3 hmk s2 s1 sm;have y4:=(s4.box 0 rfl).1;simp[Zw]at y4;have hN1:0<g.nons.length:=by omega
 obtain ⟨b2,o2,rfl,hb2,d1,d2⟩:=Go.Px.strs_at (Rep.below hr2 (s4.chg.below hB λ _ _=>id)) hN1;have hf0:g.nons[0]=⟨#[]⟩:=by
  have h9:=hcl.first;rw[Qa7,Qb hN1]at h9;injection h9
 simp[hf0]at d1;have hNp:0<N:=by omega
 obtain ⟨cm,_⟩:=Zdo s4 (k:=1) rfl (ms:=may) (j:=js) hjm;obtain ⟨co,fo⟩:=Zdo s4 (k:=2) rfl (ms:=out4) (j:=0) (by omega);rw[hbs]at cm;have s5:=Zfl s4 (k:=2) rfl (ms:=out4) 0 bs;simp -dsimp[go_sem,y4,hNp,d1];unfold Zr.b1_1;simp -dsimp[go_sem,y4,wj,hml,hjl,cm,co,fo,hNp];have s6:=s5.old (Chg.refl noB _).drew;clear s5;generalize (w4.setCell ⟨o,0,none⟩ (.bool bs)).drew=w5 at s6 |-;have hsn5:SndM g.terms.length g.prods (out4.set 0 bs):=SndM.put hsn4 λ hb=>by have:=hp0 hb;simpa using this
 have hl5:(out4.set 0 bs).length=N:=by simp[hl4]
 have s6:St noB w w5 [boxC q 27 (.slice A1 g.terms.length c1::[.slice (some ⟨b2,o2,none⟩) N c2,.slice A3 g.levels.length c3,.int .i64 g.start,.slice A4 g.prods.length c4]),rowC 4 1 (some ⟨m,0,none⟩) may.length may.length (Zaz may),rowC 4 1 (some ⟨o,0,none⟩) N N (Zaz (out4.set 0 bs))]:=s6;generalize out4.set 0 bs=out5 at s6 hsn5 hl5;clear y4 cm co fo s4;rw[hml]at s6
 let LL:List Bool->List Ch:=λ out=>[boxC q 27 (.slice A1 g.terms.length c1::[.slice (some ⟨b2,o2,none⟩) N c2,.slice A3 g.levels.length c3,.int .i64 g.start,.slice A4 g.prods.length c4]),rowC 4 1 (some ⟨m,0,none⟩) N N (Zaz may),rowC 4 1 (some ⟨o,0,none⟩) N N (Zaz out)]
 let J:Value->World->Nat->Prop:=λ y w' f=>∃(ag:Bool) (out:List Bool),y = .bool ag/\out.length=N/\SndM g.terms.length g.prods out/\St noB w w' (LL out)/\f=2*cntF out+(if ag then 1 else 0)
 unfold Zr.b4;refine Zr.l6_intro _ _ _ _ _ _ (λ y w'=>∃f,J y w' f) (λ y w'=>muOf (J y) w') ⟨_,true,out5,rfl,hl5,hsn5,s6,rfl⟩ ?_;rintro y3 w6 hJ C hC;have hJm:=Zfy hJ;have hfin:∀y4 w4 f,J y4 w4 f->f<muOf (J y3) w6->C y4 w4:=λ y4 w4 f h1 h2=>hC _ _ ⟨f,h1⟩ (Qbd (Zfw h1) h2);obtain ⟨ag,out0,rfl,hl0,hag,s7,hf⟩:=hJm;rw[hf]at hfin;clear hf hC hJ s6
 cases ag with
 | false=>
  simp -dsimp[go_sem];unfold Zr.b3;exact hR _ _ ⟨o,out0,by rw[hl0],hl0.trans hNe.symm,by rw[hl0];exact s7.pick [2] (by simp) rfl,hag⟩
 | true=>
 simp -dsimp[go_sem];unfold Zr.b9;refine Zr.l11_intro _ _ _ _ _ _ _ _ (λ x y w'=>∃(ag:Bool) (i:Nat) (out:List Bool),x = .bool ag/\y = .int .i64 i/\i<=g.prods.length/\out.length=N/\SndM g.terms.length g.prods out/\St noB w w' (LL out)/\cntF out+(if ag then 1 else 0)<=cntF out0) (λ _ y _=>g.prods.length-iv y)
  ⟨false,0,out0,rfl,rfl,by omega,hl0,hag,s7,by simp⟩ ?_
 rintro _ _ w7 ⟨ag,i,out,rfl,rfl,hi,hl,hsn,s8,hcnt⟩ D hD;have wi:IntKind.i64.wrap ((i:Int)+1)=(i:Int)+1:=IntWalk.i64_in _ (by have:=hcl.prods.c1;omega);have y8:=(s8.box 0 rfl).1;simp[Zw]at y8;simp -dsimp[go_sem,y8];refine Za (λ p1=>?_) (λ p1=>?_)<;>simp at p1
 ·obtain ⟨b,of,vr,rfl,hb,x1,x2,x3,hr,_⟩:=Zcc hr4 p1;have x1:=s8.chg.at x1 id;have x2:=s8.chg.at x2 id;have x3:=s8.chg.at x3 id;have hx:=hcl.syms' g.prods[i] (Qj p1);obtain ⟨j,hj⟩:∃j:Nat,g.prods[i].1-(g.terms.length:Int)=j:=⟨(g.prods[i].1-(g.terms.length:Int)).toNat,by omega⟩;have hjl2:j<N:=by omega
  have wj2:IntKind.i64.wrap (g.prods[i].1-(g.terms.length:Int))=(j:Int):=by rw[hj];exact IntWalk.i64_in _ (by omega)
  obtain ⟨Ar,cr,rfl,hrl,hrm,_⟩:=Zz hr;have s9:=s8.alloc #[.int .i64 g.prods[i].1,.slice Ar g.prods[i].2.1.length cr,.int .i64 g.prods[i].2.2] 103;have hgo:∀w' (ag':Bool) (out':List Bool),out'.length=N->SndM g.terms.length g.prods out'->cntF out'+(if ag' then 1 else 0)<=cntF out0->St noB w w' (LL out')->Zr.b14 R C D (.bool ag') (.int .i64 i) w':=by
   intro w' ag' out' h1 h2 h3 h4;unfold Zr.b14;simp -dsimp[go_sem,wi];exact hD _ _ _ ⟨ag',i+1,out',rfl,by simp,by omega,h1,h2,h4,h3⟩ (by simp[iv];omega)
  simp -dsimp[go_sem,y8,p1,x1,x2,x3];have hc9:Chg noB w7 (w7.alloc (.cells #[.int .i64 g.prods[i].1,.slice Ar g.prods[i].2.1.length cr,.int .i64 g.prods[i].2.2] 103)):=(Chg.refl _ _).alloc _;generalize w7.alloc (.cells #[.int .i64 g.prods[i].1,.slice Ar g.prods[i].2.1.length cr,.int .i64 g.prods[i].2.2] 103)=w8 at s9 hc9 |-;generalize w7.heap.size=q5 at s9 |-;have z9:=(s9.box 3 rfl).1;simp[Zw]at z9;have y9:=(s9.box 0 rfl).1;simp[Zw]at y9;obtain ⟨co,_⟩:=Zdo s9 (k:=2) rfl (ms:=out) (j:=j) (by omega);unfold Zr.b27;simp -dsimp[go_sem,y9,z9,wj2,hjl2,co]
  cases hbo:out[j]'(by omega) with
  | false=>
   unfold Zr.b28;simp -dsimp[go_sem];exact hgo _ ag out hl hsn hcnt (s9.take 3)
  | true=>
   simp -dsimp[go_sem];unfold Zr.b27_1;simp -dsimp[go_sem,y9,z9];have hbl:Below B w w8:=s9.chg.below hB λ _ _=>id;refine Zi (Zui s9 hml (k:=1) rfl (row:=g.prods[i].2.1) (by rw[<-hNe];exact Zx hg hbl) (Rep.below hr hbl) (by have:=s9.chg.size;omega) hT λ x hx2=>by have:=(hx.2 x hx2).2;omega) ?_;rintro _ w9 ⟨rfl,hc10⟩;have s10:=s9.old hc10;unfold Zr.b28
   cases hfit:g.prods[i].2.1.all (okS g.terms.length may) with
   | false=>
    simp -dsimp[go_sem];exact hgo _ ag out hl hsn hcnt (s10.take 3)
   | true=>
    simp -dsimp[go_sem];exact Zxm (L0:=[rowC 4 1 (some ⟨m,0,none⟩) N N (Zaz may)]) (n1:=(A1,c1)) (p:=g.prods[i]) s10 hl (by omega) hT hr hB (by omega) hsn (λ x hx2=>by have:=hx.2 x hx2;omega) (hmay.fits (λ x hx2=>by have:=(hx.2 x hx2).1;omega) hfit) hcnt λ w' ag' out' h1 h2 h3 h4=>hgo _ ag' out' h1 h2 h3 (h4.take 3)
 ·refine hfin _ _ _ ⟨ag,out,rfl,hl,hsn,s8,rfl⟩ ?_;cases ag<;>simp at hcnt |-<;>omega
attribute [-go_sem] Zbm.b3 Zbm.b5 Zbm.b4_1 Zbm.b4 Zci.b3 Zci.b7_1 Zci.b4 Zci.b1_1
theorem Zt0 {w:World}{B:Nat}{vg:Value}{g:Gr}(hg:Zb7.atN w B vg g)(hB:B<=w.heap.size)(hcl:Zbn g) :
  Ct Tryz.prog Zbm.id #[vg] w λ v w'=>∃m ms,v = .tuple #[.slice (some ⟨m,0,none⟩) ms.length ms.length,.int .i64 0]/\ms.length=g.nons.length/\St noB w w' [rowC 4 1 (some ⟨m,0,none⟩) ms.length ms.length (Zaz ms)]/\SndM g.terms.length g.prods ms:=by
 refine Zbm.ct λ R hR=>?_;obtain ⟨A1,c1,A2,c2,A3,c3,A4,c4,rfl,⟨m1,m2,m3,m4⟩,hst,hc0,hgr⟩:=Zbg hg hB;have s1:=(St.refl noB w).alloc (gQ A1 c1 A2 c2 A3 c3 A4 c4 g) 27;unfold Zbm.run;simp -dsimp[go_sem];generalize w.alloc (.cells (gQ A1 c1 A2 c2 A3 c3 A4 c4 g) 27)=w1 at s1 hc0 hgr |-;generalize w.heap.size=q at s1 hgr |-;have y1:=(hgr _ (Chg.refl _ _)).k;have hup:∀w',Chg noB w1 w'->Zb7.atN w' B (.agg (gQ A1 c1 A2 c2 A3 c3 A4 c4 g)) g/\B<=w'.heap.size:=λ w' hc=>
  ⟨Zx hg ((hc0.trans hc).below hB λ _ _=>id),(hgr _ hc).sz⟩
 unfold Zbm.b4;simp -dsimp[go_sem,y1];refine Zi (Zpa (hup w1 (Chg.refl _ _)).1 (hup w1 (Chg.refl _ _)).2) ?_;rintro _ w2 ⟨rfl,hc2⟩;have fin:∀w',Chg noB w1 w'->Zbm.b3 R (.pointer (some ⟨q,0,none⟩)) w':=by
  intro w3 hc3;have y3:=(hgr _ hc3).k;unfold Zbm.b3;simp -dsimp[go_sem,y3];refine Zi (ZZ90 (hup w3 hc3).1 (hup w3 hc3).2 hcl) ?_;rintro _ w4 ⟨m,ms,rfl,hl,s4,hs⟩;have s5:=(s1.old hc3).seq s4;exact hR _ _ ⟨m,ms,rfl,hl,s5.pick [1] (by simp) rfl,hs⟩
 have y2:=(hgr _ hc2).k
 cases hv:Zn2 g with
 | true=>
  simp -dsimp[go_sem];unfold Zbm.b5;simp -dsimp[go_sem];exact fin w2 hc2
 | false=>
  simp -dsimp[go_sem];unfold Zbm.b4_1;simp -dsimp[go_sem,y2];refine Zi (Ziw (hup w2 hc2).1 (hup w2 hc2).2) ?_;rintro _ w3 ⟨rfl,hc3⟩;rw[Zc5.2 hcl];unfold Zbm.b5;simp -dsimp[go_sem];exact fin w3 (hc2.trans hc3)
theorem Zuo {w:World}{B:Nat}{vg:Value}{g:Gr}(hg:Zb7.atN w B vg g)(hB:B<=w.heap.size)(hcl:Zbn g) :
  Ct Tryz.prog Zci.id #[vg] w λ v w'=>∃b,v = .bool b/\Chg noB w w'/\(b=true->∀p∈g.prods,∀s∈p.2.1,Pd g.terms.length g.prods s):=by
 refine Zci.ct λ R hR=>?_;obtain ⟨A1,c1,A2,c2,A3,c3,A4,c4,rfl,⟨m1,m2,m3,m4⟩,hst,hc0,hgr⟩:=Zbg hg hB;unfold Zci.run;have y1:=(hgr _ (Chg.refl _ _)).k;simp -dsimp[go_sem,y1];have hg1:=Zx hg (hc0.below hB λ _ _=>id);have hB1:=(hgr _ (Chg.refl _ _)).sz;generalize w.alloc (.cells (gQ A1 c1 A2 c2 A3 c3 A4 c4 g) 27)=w1 at hc0 hgr hg1 hB1 y1 |-;refine Zi (Zt0 hg1 hB1 hcl) ?_;rintro _ w2 ⟨m,ms,rfl,hl,s2,hs⟩;have hN:=hcl.syms.n1;unfold Zci.b1_1;simp -dsimp[go_sem];unfold Zci.b4;refine Zci.l6_intro _ _ _ _ _ (λ y w'=>∃i:Nat,y = .int .i64 i/\i<=ms.length/\w'=w2/\∀j,j<i->ms.getD j false=true) (λ y _=>ms.length-iv y) ⟨0,rfl,by omega,rfl,λ j h=>by omega⟩ ?_;rintro _ _ ⟨i,rfl,hi,rfl,hall⟩ C hC;simp -dsimp[go_sem];refine Za (λ p1=>?_) (λ p1=>?_)<;>simp at p1
 ·have wi:=wS i (by omega);obtain ⟨co,_⟩:=Zdo s2 (k:=0) rfl (ms:=ms) (j:=i) p1;unfold Zci.b7_1;simp -dsimp[go_sem,p1,co]
  cases hb:ms[i]with
  | false=>
   simp -dsimp[go_sem];exact hR _ _ ⟨false,rfl,hc0.trans s2.chg,λ h=>by cases h⟩
  | true=>
   simp -dsimp[go_sem,wi];refine hC _ _ ⟨i+1,by simp,by omega,rfl,λ j hj=>?_⟩ (by simp[iv];omega);by_cases e:j=i
   ·subst e;rw[Qc,Qb p1,hb];rfl
   ·exact hall j (by omega)
 ·unfold Zci.b3;simp -dsimp[go_sem];refine hR _ _ ⟨true,rfl,hc0.trans s2.chg,λ _ p hp s hsp=>?_⟩;have hx:=(hcl.syms' p hp).2 s hsp;by_cases e:s<g.terms.length
  ·exact .term (by omega) e
  ·have:=hs (s-g.terms.length).toNat (hall _ (by omega));rw[show (g.terms.length:Int)+((s-g.terms.length).toNat:Int)=s by omega]at this;exact this
end Go.Proofs.YtjibcckpehdbhaaGreatDoor
namespace Go.Px.Cn
open Go.Px Go.Px.Scan Go.Proofs.YtjibcckpehdbhaaGreatDoor
theorem Zr5 {g:Gr}(hcl:Zbn g){ks:List (List It)}(h:Lr0 g.prods ks):1<ks.length:=by
 obtain ⟨l,hl,he⟩:=h.go _ h.start g.start ⟨(0,1),(0,0),.base (by simp),Zy8 hcl,rfl⟩;have h1:((0,1):It)∈l:=(he (0,1)).2 ⟨(0,0),.base (by simp),Zy8 hcl,rfl⟩;have hne:l≠[((0,0):It)]:=λ e=>by rw[e]at h1;simp at h1
 obtain ⟨i,hi,e1⟩:=Q3 hl;obtain ⟨j,hj,e2⟩:=Q3 h.start;have:i≠j:=λ e=>by subst e;exact hne (e1.symm.trans e2)
 omega
theorem LkOk.congr {P:Prs}{ks:List (List It)}{T T':Nat->Nat->Nat->Prop}{l:List (Nat×Nat×List Nat)}(h:LkOk P ks T l)(hT:∀q p,0<p->p<P.length->InCl P ks q (p,(rgt P p).length)->∀t,T q p t↔T' q p t):LkOk P ks T' l :=
 ⟨h.srt,h.mem,h.tsr,λ x hx t=>(h.tmm x hx t).trans (by
  obtain ⟨h1,h2,h3⟩:=(h.mem x.1 x.2.1).1 ⟨x.2.2,hx⟩
  exact hT _ _ h1 h2 h3 t)⟩
theorem ZZ149 {nT:Nat}{P:Prs}{X:Int}{u:Nat}(h:Fst nT P X u):u<nT:=by
 induction h with
 | term h=>exact h
 | non _ _ _ _ ih=>exact ih
theorem mg_la {g:Gr}{ks:List (List It)}{ess:List (List (Int×Nat))}{null:List Bool}{hs:List (List Bool)}{ss:List (List It1)}(hP:AutP g ks ess)(hT:Zo0 g.terms.length g.prods null hs)(hS:Zm9 g.terms.length g.prods null hs)
  (hu:∀p∈g.prods,∀s∈p.2.1,Pd g.terms.length g.prods s) (h1:Lr1 g.prods (FI g.terms.length null hs) ss) {q p t:Nat} (hp:0<p) (hpl:p<g.prods.length):MgT g.prods ks ss q p t↔LaT g ks q p t:=by
 have hau:=hP.au;have hF:=fi_ne hT hu;have h0:∀p∈g.prods,∀s∈p.2.1,0<=s:=λ p hp s hs=>by have:=((Zd7 hP.cl p hp).2 s hs).1;omega
 have hl0:∀p∈g.prods,0<=p.1:=λ p hp=>by
  obtain ⟨i,hi,rfl⟩:=Q3 hp;have:=Zln hP.cl hi;unfold lft at this;rw[Qc,Qb hi]at this;have:(g.terms.length:Int)<=(g.prods[i]).1:=this;omega
 have hr:∀(x:Nat) (k:Nat),∀s∈(rgt g.prods x).drop k,0<=s:=λ x k s hs=>by
  have hs:=Qb2 hs;unfold rgt at hs;by_cases hx:x<g.prods.length
  ·rw[Qc,Qb hx]at hs;exact h0 _ (Qj hx) s hs
  ·rw[Qc,Qx (by omega)]at hs;simp at hs
 have hfi:∀x t u,FI g.terms.length null hs ((rgt g.prods x).drop t) u=FIp g.terms.length g.prods ((rgt g.prods x).drop t) u:=λ x t u=>by
  funext v;exact propext (ZZ112 hT hS h0 hl0 (hr x t) u v)
 have e1:MgT g.prods ks ss q p t↔Hd g.prods (FI g.terms.length null hs) ks q (p,(rgt g.prods p).length) t:=(hau.canon hF h1).symm;have e2:Hd g.prods (FI g.terms.length null hs) ks q (p,(rgt g.prods p).length) t↔Hd g.prods (FIp g.terms.length g.prods) ks q (p,(rgt g.prods p).length) t:=⟨Hd.congr hfi,Hd.congr λ x t u=>(hfi x t u).symm⟩;have hne:∀q x,InCl g.prods ks q x->∃t,Hd g.prods (FIp g.terms.length g.prods) ks q x t:=λ q x hx=>by
  obtain ⟨t,ht⟩:=hau.held hF hx;exact ⟨t,Hd.congr hfi ht⟩
 rw[e1,e2,hau.look hne hp];exact ⟨λ h=>h.2,λ h=>⟨hpl,h⟩⟩
end Go.Px.Cn
namespace Go.Proofs.YtjibcckpehdbhaaGreatDoor
open Go.Px Go.Px.Scan Go.Px.Cn Go.RowKit
attribute [-go_sem] Builtin.append_ Zbd.b3 Zbd.b9 Zbd.b12 Zbd.b11_1 Zbd.b11_2 Zbd.b11 Zbd.b4
def Zsl (w:World)(v:Value)(l:List (Nat×Nat×List Nat)):Prop:=∃A c,v = .slice A l.length c/\∀(j:Nat) x,l[j]?=some x->∃gA a ca,A=some ⟨gA,0,none⟩/\w.cell? ⟨gA,j*3,none⟩=some (.int .i64 x.1)/\w.cell? ⟨gA,j*3+1,none⟩=some (.int .i64 x.2.1)/\w.cell? ⟨gA,j*3+2,none⟩=some (.slice a x.2.2.length ca)/\(Zq rInt).at1 w w.heap.size (.slice a x.2.2.length ca) (Zec x.2.2)
theorem Zsl.keep {w w':World}{v:Value}{l:List (Nat×Nat×List Nat)}(h:Zsl w v l)(hc:Chg noB w w'):Zsl w' v l:=by
 obtain ⟨A,c,rfl,h⟩:=h;refine ⟨A,c,rfl,λ j x hx=>?_⟩;obtain ⟨gA,a,ca,e,h1,h2,h3,h4⟩:=h j x hx;exact ⟨gA,a,ca,e,hc.at h1 id,hc.at h2 id,hc.at h3 id,Rep.up (Rep.below h4 (hc.below (Ql _) λ _ _=>id)) hc.size⟩
theorem Zq9 {W w:World}{A:Option Addr}{c c':Nat}{D:List LRow}{M:List Ch}(s:St noB W w (lkL A c D++M))(hD:∀x∈D,x.2.2.2.2.length<=1000000/\∀y∈x.2.2.2.2,y<1000000):Zsl w (.slice A D.length c') (D.map lkP):=by
 refine ⟨A,c',by rw[Qp],λ j x hx=>?_⟩;rw[Qh]at hx;obtain ⟨y,hy,rfl⟩:=Q4.1 hx;have hm:=hD y (Qe hy);obtain ⟨h1,gA,e,_,h2,h3,h4,_⟩:=Znt s hy hm.1 hm.2;exact ⟨gA,_,_,e,h2,h3,h4,h1⟩
theorem Zwv {w:World}{va vb:Value}{a b:List (Nat×Nat×List Nat)}(ha:Zsl w va a)(hb:Zsl w vb b)(hl:a.length<=1000000) :
  Ct Tryz.prog Zbd.id #[va,vb] w λ v w'=>(∃r,v = .bool r/\(a=b->r=true))/\Chg noB w w':=by
 obtain ⟨Aa,ca,rfl,_⟩:=id ha;obtain ⟨Ab,cb,rfl,_⟩:=id hb;refine Zbd.ct λ R hR=>?_;have no:a≠b->∀w',Chg noB w w'->R (.returned (.bool false)) w':=λ hne w' hc=>hR _ _ ⟨⟨false,rfl,λ e=>absurd e hne⟩,hc⟩;unfold Zbd.run;simp -dsimp[go_sem];refine Za (λ p0=>?_) (λ p0=>?_)<;>simp at p0
 ·exact no (λ e=>p0 (by rw[e])) _ (Chg.refl _ _)
 have hll:a.length=b.length:=by omega
 unfold Zbd.b4;refine Zbd.l6_intro _ _ _ _ _ (λ y w'=>∃k:Nat,y = .int .i64 k/\k<=a.length/\Chg noB w w') (λ y _=>a.length-iv y) ⟨0,rfl,Qy _,Chg.refl _ _⟩ ?_;rintro _ w1 ⟨k,rfl,hk,hc1⟩ C hC;have wk:=wS k (by omega);simp -dsimp[go_sem];refine Za (λ p1=>?_) (λ p1=>?_)<;>simp at p1
 ·have p2:k<b.length:=by omega
  obtain ⟨x,hx⟩:∃x,a[k]=x:=⟨_,rfl⟩;obtain ⟨y,hy⟩:∃y,b[k]=y:=⟨_,rfl⟩;have hxk:a[k]?=some x:=by rw[<-hx];exact Qb p1
  have hyk:b[k]?=some y:=by rw[<-hy];exact Qb p2
  obtain ⟨A1,d1,e1,ha1⟩:=ha.keep hc1;injection e1 with e1 _ e2;subst e1 e2;obtain ⟨B1,d2,e1,hb1⟩:=hb.keep hc1;injection e1 with e1 _ e2;subst e1 e2;obtain ⟨gA,ra,cra,rfl,x0,x1,x2,xr⟩:=ha1 k x hxk;obtain ⟨gB,rb,crb,rfl,y0,y1,y2,yr⟩:=hb1 k y hyk;have hd:=(Chg.refl noB w1).drew;unfold Zbd.b11;simp -dsimp[go_sem,p1,p2,x2,y2];refine Zi (Zpl (Rep.below xr (hd.below (Ql _) λ _ _=>id)) (Rep.below yr (hd.below (Ql _) λ _ _=>id)) hd.size) ?_;rintro _ w3 ⟨rfl,hc3⟩;have hc13:=hd.trans hc3;have x0':=hc13.at x0 id;have x1':=hc13.at x1 id;have y0':=hc13.at y0 id;have y1':=hc13.at y1 id;have hd3:=(hc1.trans hc13).drew;have dif:x≠y->R (.returned (.bool false)) w3.drew:=λ hne=>no (λ e=>hne (by rw[e,hyk]at hxk;injection hxk with hxk;exact hxk.symm)) _ hd3;simp -dsimp[go_sem];refine Za (λ p3=>?_) (λ p3=>?_)<;>simp at p3
  ·unfold Zbd.b12;simp -dsimp[go_sem];exact dif λ e=>p3 (by rw[e])
  ·unfold Zbd.b11_2;simp -dsimp[go_sem,p1,p2,x0',y0'];refine Za (λ p4=>?_) (λ p4=>?_)<;>simp at p4
   ·unfold Zbd.b12;simp -dsimp[go_sem];exact dif λ e=>p4 (by rw[e])
   ·unfold Zbd.b11_1;simp -dsimp[go_sem,p1,p2,x1',y1'];unfold Zbd.b12;refine Za (λ p5=>?_) (λ p5=>?_)<;>simp at p5
    ·exact dif λ e=>p5 (by rw[e])
    ·unfold Zbd.b9;simp -dsimp[go_sem,wk];exact hC _ _ ⟨k+1,by simp,by omega,hd3⟩ (by simp[iv];omega)
 ·unfold Zbd.b3;exact hR _ _ ⟨⟨true,rfl,λ _=>rfl⟩,hc1⟩
attribute [-go_sem] Zaa.b1_1 Zaa.b1_2 Zaa.b1_3 Zaa.b1_4 Zaa.b1_5 Zaa.b1_6 Zaa.b1_7 Zaa.b1_8 Zaa.b1_9 Zaa.b1_10 Zaa.b1_11
def BldA (g:Gr)(w':World)(v:Value):Prop:=(∃e:Nat,NoAut g e/\v = .tuple #[.agg #[.slice none 0 0,.int .i64 0,.int .i64 0],.int .i64 e]) \/
 ∃ks ess A c asked,AutP g ks ess/\v = .tuple #[.agg #[.slice A ks.length c,.int .i64 asked,.int .i64 (ks.length:Nat)],.int .i64 0]/\StR w' A ks/\EdR w' A ess
theorem Znq {w:World}{B:Nat}{vg:Value}{g:Gr}(hg:Zb7.atN w B vg g)(hB:B<=w.heap.size):Ct Tryz.prog Zn.id #[vg] w λ v w'=>Chg noB w w'/\BldA g w' v:=by
 refine (Zl2 hg hB).mono λ v w' h=>?_;obtain ⟨hc,h⟩:=h;refine ⟨hc,?_⟩;rcases h with ⟨hn,rfl⟩|⟨hn,rfl⟩|⟨hcl,A,c,asked,ks,ess,rfl,h1,h2,h3,h4,h5,h6,h7⟩
 ·exact Or.inl ⟨1,Or.inl ⟨rfl,hn⟩,rfl⟩
 ·exact Or.inl ⟨11,Or.inr ⟨rfl,hn.1,hn.2⟩,rfl⟩
 ·exact Or.inr ⟨ks,ess,A,c,asked,⟨hcl,h1,h2,h3,h5,h6⟩,rfl,h4,h7⟩
theorem NoAut.uniq {g:Gr}{e e':Nat}(h:NoAut g e)(h':NoAut g e'):e=e':=by
 rcases h with ⟨rfl,h⟩|⟨rfl,h,_⟩<;>rcases h' with ⟨rfl,h'⟩|⟨rfl,h',_⟩
 ·rfl
 ·exact absurd h' h
 ·exact absurd h h'
 ·rfl
theorem Zpp {w:World}{B:Nat}{vg:Value}{g:Gr}(hg:Zb7.atN w B vg g)(hB:B<=w.heap.size)(hD:Deb w) :
  Ct Tryz.prog Zaa.id #[vg] w λ v w'=>v = .bool true/\Chg noB w w':=by
 refine Zaa.ct λ R hR=>?_;obtain ⟨A1,c1,A2,c2,A3,c3,A4,c4,rfl,⟨m1,m2,m3,m4⟩,hst,hc0,hgr⟩:=Zbg hg hB;have s1:=(St.refl noB w).alloc (gQ A1 c1 A2 c2 A3 c3 A4 c4 g) 27;unfold Zaa.run;have y1:=(hgr _ (Chg.refl _ _)).k;simp -dsimp[go_sem,y1];have hup:∀w',Chg noB w w'->Zb7.atN w' B (.agg (gQ A1 c1 A2 c2 A3 c3 A4 c4 g)) g/\B<=w'.heap.size:=λ w' hc=>
  ⟨Zx hg (hc.below hB λ _ _=>id),by have:=hc.size;omega⟩
 clear y1;generalize w.alloc (.cells (gQ A1 c1 A2 c2 A3 c3 A4 c4 g) 27)=w1 at s1 hc0 hgr |-;generalize w.heap.size=q at s1 hgr |-;refine Zi (ZZ38 (hup w1 hc0).1 (hup w1 hc0).2 (hD.chg hc0 id)) ?_;rintro v w2 hsets;have mk:∀(A Ak:Option Addr) (n cA nk ck:Nat) (e f:Nat) (asked intr:Int),e=f->Chg noB w1 w2->∀w3,Chg noB w2 w3->(∀w4 ab,Chg noB w3 w4->(∀w',Chg noB w4 w'->w'.cell? ⟨ab,0,none⟩=some (.slice Ak nk ck)/\w'.cell? ⟨ab,1,none⟩=some (.int .i64 asked)/\w'.cell? ⟨ab,2,none⟩=some (.int .i64 intr)) ->
   (if e≠0 then Zaa.b1_2 R (.slice A n cA) (.int .i64 e) (.bool (Zka g)) w4 else Zaa.b1_8 R (.pointer (some ⟨q,0,none⟩)) (.slice A n cA) (.pointer (some ⟨ab,0,none⟩)) w4)) ->
   Zaa.b1_10 R (.pointer (some ⟨q,0,none⟩)) (.slice A n cA) (.int .i64 e) (.tuple #[.agg #[.slice Ak nk ck,.int .i64 asked,.int .i64 intr],.int .i64 f]) w3:=by
  intro A Ak n cA nk ck e f asked intr hef hc12 w3 hc3 h;subst hef;have s4:=(St.refl noB w3).alloc #[.slice Ak nk ck,.int .i64 asked,.int .i64 intr] 34;have hc4:Chg noB w3 (w3.alloc (.cells #[.slice Ak nk ck,.int .i64 asked,.int .i64 intr] 34)):=(Chg.refl _ _).alloc _;unfold Zaa.b1_10;simp -dsimp[go_sem];generalize w3.alloc (.cells #[.slice Ak nk ck,.int .i64 asked,.int .i64 intr] 34)=w4 at s4 hc4 |-;generalize w3.heap.size=ab at s4 |-;have hc14:=(hc12.trans hc3).trans hc4;have y4:=(hgr w4 hc14).k;unfold Zaa.b1_9;simp -dsimp[go_sem,y4];refine Zi (Ziw (hup w4 (hc0.trans hc14)).1 (hup w4 (hc0.trans hc14)).2) ?_;rintro _ w5 ⟨rfl,hc5⟩;have:=h w5 ab (hc4.trans hc5) λ w' hc=>by
   have y:=((s4.old (hc5.trans hc)).box 0 rfl).1;simpa[Zw]using y
  by_cases he:e=0
  ·subst he;simp -dsimp[go_sem];simpa[go_sem]using this
  ·rw[if_pos he]at this;have e1:((e:Int) != 0)=true:=by simp[he]
   simp -dsimp[go_sem,e1];exact this
 have yes:∀w' ab (n:Nat) A cA,Chg noB w w'->w'.cell? ⟨ab,0,none⟩=some (.slice A n cA)->1<n->Zaa.b1_3 R (.pointer (some ⟨ab,0,none⟩)) w'/\Zaa.b1_4 R (.pointer (some ⟨ab,0,none⟩)) w':=by
  intro w' ab n A cA hc hcell h1;have e9:decide ((1:Int)<n)=true:=decide_eq_true (by omega);constructor
  ·unfold Zaa.b1_3;simp -dsimp[go_sem,hcell];rw[e9];exact hR (.bool true) w' ⟨rfl,hc⟩
  ·unfold Zaa.b1_4;simp -dsimp[go_sem,hcell];rw[e9];exact hR (.bool true) w' ⟨rfl,hc⟩
 rcases hsets with ⟨e,he,rfl,hc2⟩|⟨ks,ess,Al,cl,D,hP,rfl,hlk,s2⟩
 ·have y2:=(hgr w2 hc2).k;have hc02:=hc0.trans hc2;have ce:Zka g=(decide (e=11)):=by
   rcases he with ⟨rfl,h⟩|⟨rfl,h,_⟩
   ·exact Zeg Zc5 h
   ·exact Zc5.2 h
  have e0:e≠0:=by rcases he with ⟨rfl,_⟩ | ⟨rfl,_⟩<;>decide
  unfold Zaa.b1_11;rw[Ur_eq,Zic,Zb2,Ur_eq,Zh6,Zb2];simp -dsimp[go_sem,y2];refine Zi (Znq (hup w2 hc02).1 (hup w2 hc02).2) ?_;rintro v w3 ⟨hc3,hres⟩;rcases hres with ⟨f,hf,rfl⟩|⟨ks,ess,A,c,asked,hP,rfl,_⟩
  ·refine mk none none 0 0 0 0 e f 0 0 (he.uniq hf) hc2 w3 hc3 (λ w4 ab h4 _=>?_);rw[if_pos e0,ce];unfold Zaa.b1_2;simp -dsimp[go_sem];unfold Zaa.b1_1;simp -dsimp[go_sem];have e9:((decide (e=11)) == ((e:Int) == 11))=true:=by
    by_cases h:e=11
    ·subst h;rfl
    ·have:((e:Int) == 11)=false:=by simp;omega
     rw[this,decide_eq_false h];rfl
   refine hR _ _ ⟨?_,(hc02.trans hc3).trans h4⟩;congr 1
  ·exact absurd he hP.noAut
 ·have hc2:=s2.chg;have y2:=(hgr w2 hc2).k;have hc02:=hc0.trans hc2;unfold Zaa.b1_11;rw[Ur_eq,Zic,Zb2,Ur_eq,Zh6,Zb2];simp -dsimp[go_sem,y2];refine Zi (Znq (hup w2 hc02).1 (hup w2 hc02).2) ?_;rintro v w3 ⟨hc3,hres⟩;rcases hres with ⟨f,hf,rfl⟩|⟨ks2,ess2,A,c,asked,hP2,rfl,hstr,hedr⟩
  ·exact absurd hf hP.noAut
  obtain ⟨rfl,rfl⟩:=hP2.uniq hP;have h2:=Zr5 hP.cl hP.lr;refine mk Al A D.length D.length ks2.length c 0 0 asked ks2.length rfl hc2 w3 hc3 (λ w4 ab h4 hab=>?_);rw[if_neg (by simp)];obtain ⟨z0,z1,z2⟩:=hab w4 (Chg.refl _ _);have hc24:=hc3.trans h4;have hc04:=hc02.trans hc24;have y4:=(hgr w4 (hc2.trans hc24)).k;unfold Zaa.b1_8;simp -dsimp[go_sem,y4];refine Zi (Zuo (hup w4 hc04).1 (hup w4 hc04).2 hP.cl) ?_;rintro _ w5 ⟨b,rfl,hc5,hb⟩
  cases b with
  | false=>
   simp -dsimp[go_sem];exact (yes w5 ab _ _ _ (hc04.trans hc5) (hab w5 hc5).1 h2).1
  | true=>
   simp -dsimp[go_sem];have hc05:=hc04.trans hc5;have y5:=(hgr w5 ((hc2.trans hc24).trans hc5)).k;unfold Zaa.b1_7;simp -dsimp[go_sem,y5];refine Zi (Zly (hup w5 hc05).1 (hup w5 hc05).2 hP.cl) ?_;rintro v w6 ⟨hc6,hcol⟩;have hc06:=hc05.trans hc6;rcases hcol with ⟨v0,rfl⟩|⟨null,hs,gA,c6,ss,rfl,htab,htsn,hlr1,hss,hsl,hco⟩
   ·unfold Zaa.b1_6;simp -dsimp[go_sem];exact (yes w6 ab _ _ _ hc06 (hab w6 (hc5.trans hc6)).1 h2).2
   ·unfold Zaa.b1_6;simp -dsimp[go_sem];have y6:=(hgr w6 (((hc2.trans hc24).trans hc5).trans hc6)).k;obtain ⟨u0,u1,u2⟩:=hab w6 (hc5.trans hc6);have ht1:=hP.cl.syms.t1;have ht0:0<g.terms.length:=by
     have:=hP.cl.syms.t0
     cases hq:g.terms with
     | nil=>rw[hq]at this;cases this
     | cons a b=>simp
    have hFu:∀(x:It) (t u:Nat),FI g.terms.length null hs ((rgt g.prods x.1).drop (x.2+1)) t u->u<g.terms.length\/u=t:=λ x t u h=>by
     rcases h with h|⟨_,h⟩
     ·refine Or.inl ?_;have h0:∀s∈(rgt g.prods x.1).drop (x.2+1),0<=s:=λ s hs=>by
       have hs:=Qb2 hs;unfold rgt at hs;by_cases hx:x.1<g.prods.length
       ·rw[Qc,Qb hx]at hs;have:=((Zd7 hP.cl _ (Qj hx)).2 s hs).1;omega
       ·rw[Qc,Qx (by omega)]at hs;simp at hs
      obtain ⟨_,X,_,_,_,hX⟩:=Zl8 htsn.nul htsn.fst h0 u h;exact ZZ149 hX
     ·exact Or.inr h
    unfold Zaa.b1_5;simp -dsimp[go_sem,y6,u0,u1,u2];refine Zi (Zuc (ss:=ss) (hup w6 hc06).1 (hup w6 hc06).2 hP (StR.keep hstr ((h4.trans hc5).trans hc6)) hco hsl λ a ha=>⟨(hss a ha).1,(hss a ha).2,λ z hz=>R1.ok (Zd9 hP.cl).2 ht0 hFu (hlr1.r1 a ha) z hz⟩) ?_;rintro _ w7 ⟨A7,c7,D7,rfl,hlk7,hD7,s7⟩;have hlk8:=hlk7.congr (T':=LaT g ks2) λ q p hp hpl _ t=>mg_la hP htab htsn (hb rfl) hlr1 hp hpl;have heq:=ZZ133 hlk hlk8;have small:∀(D':List LRow),LkOk g.prods ks2 (LaT g ks2) (D'.map lkP)->∀x∈D',x.2.2.2.2.length<=1000000/\∀y∈x.2.2.2.2,y<1000000:=λ D' h x hx=>by
     have hm:lkP x∈D'.map lkP:=Qr.2 ⟨x,hx,rfl⟩;have hlt:∀y∈x.2.2.2.2,y<g.terms.length:=λ y hy=>by
      obtain ⟨q0,_,_,h3⟩:=(h.tmm _ hm y).1 hy;exact h3.lt ht0
     have:=Zlp (h.tsr _ hm) hlt;exact ⟨by have:x.2.2.2.2.length<=g.terms.length:=this;omega,λ y hy=>by have:=hlt y hy;omega⟩
    have hDl:D.length<=30000:=by
     have:=congrArg List.length heq;simp at this;omega
    have r1:=Zq9 (M:=[]) (c':=D.length) (by rw[Qas];exact ((s2.old (((hc24.trans hc5).trans hc6).trans s7.chg))):St noB w1 w7 (lkL Al cl D++[])) (small D hlk);have r2:=Zq9 (M:=[]) (c':=c7) (by rw[Qas];exact s7:St noB w6 w7 (lkL A7 c7 D7++[])) (small D7 hlk8);refine Zi (Zwv r1 r2 (by rw[Qp];omega)) ?_;rintro _ w8 ⟨⟨r,rfl,hr⟩,hc8⟩;rw[hr heq];exact hR _ _ ⟨rfl,(hc06.trans s7.chg).trans hc8⟩
open Go.ChangeShapes Go.WideShapes Go.ChangeAt
theorem own:ownKnob Tryz.prog.godebug=none:=by kernel_rfl
theorem ZZ203:Tryz.prog.cellsOf 9=1:=by kernel_rfl
theorem ZZ15:Zfg Tryz.prog 9 rStr:=Zts Tryz.underlying9 ZZ203 (by kernel_rfl)
theorem Znh:Zfg Tryz.prog 3 rInt:=Ztx Tryz.underlying3 (by kernel_rfl) (by kernel_rfl)
theorem Ztl:Zfg Tryz.prog 24 (Zq rInt):=Zfq Tryz.underlying24 (by kernel_rfl) (by kernel_rfl) (by decide) Znh
theorem Zy5:Zfg Tryz.prog 268 Zsq:=Zf5 Tryz.underlying268 (by kernel_rfl) (by kernel_rfl) (Zdz ZZ15 (Zh4 Znh))
theorem ZZ73:Zfg Tryz.prog 22 (Zq Zsq):=Zfq Tryz.underlying22 (by kernel_rfl) (by kernel_rfl) (by decide) Zy5
theorem ZZ26:Zfg Tryz.prog 23 (Zq rStr):=Zfq Tryz.underlying23 (by kernel_rfl) (by kernel_rfl) (by decide) ZZ15
theorem Zzj:Zfg Tryz.prog 103 rPr:=Zf5 Tryz.underlying103 (by kernel_rfl) (by kernel_rfl) (Zdz Znh (Zdz Ztl (Zh4 Znh)))
theorem ZZ88:Zfg Tryz.prog 25 (Zq rPr):=Zfq Tryz.underlying25 (by kernel_rfl) (by kernel_rfl) (by decide) Zzj
theorem ZZ44:Zfg Tryz.prog 27 Zb7:=Zue (g:=λ a=>⟨a.1,a.2.1,a.2.2.1,a.2.2.2.1,a.2.2.2.2⟩) (λ _=>rfl)
 (Zf5 Tryz.underlying27 (by kernel_rfl) (by kernel_rfl) (Zdz ZZ73 (Zdz ZZ26 (Zdz Ztl (Zdz Znh (Zh4 ZZ88))))))
end Go.Proofs.YtjibcckpehdbhaaGreatDoor
namespace Go.Px.Scan
open Go.Px
end Go.Px.Scan
namespace Go.Proofs.YtjibcckpehdbhaaGreatDoor
open Go.Px
open Go.Px.Scan Go.ChangeShapes Go.WideShapes Go.ChangeAt Go.RowKit
theorem gTab:Tryz.prog.globalNamed "math/bits.deBruijn64tab" = some 0:=by kernel_rfl
theorem Zyv:(Tryz.prog.globals[0]?).map (·.type)=some 348:=by kernel_rfl
theorem Zxu:(Rows.laid_math_bits_deBruijn64tab:DataW Unit)=Lib.tabData .u8 (Lib.deBruijn64tab.map λ n:Nat=>(n:Int)):=by kernel_rfl
theorem Zpc {W:World}(h:laidMetH Tryz.prog [("math/bits.deBruijn64tab",Rows.laid_math_bits_deBruijn64tab)] W):Deb W:=by
 have h':laidMet Tryz.prog [("math/bits.deBruijn64tab",Rows.laid_math_bits_deBruijn64tab)] W:=h;rw[Zxu]at h';have ht:Lib.TabIs Tryz.prog W "math/bits.deBruijn64tab" .u8 _:=Lib.tabIs_of_head gTab Zyv Tryz.underlying348 Tryz.underlying5 (by kernel_rfl) (by kernel_rfl) h';intro j hj;have hl:Lib.deBruijn64tab.length=64:=by decide +kernel
 rw[World.var?_cell gTab ht j,Qc3,Qh,Qh,Qc,Qb (by omega)];rfl
noncomputable def Zkn (os:Os):World :=
 let W:=World.holding Tryz.prog os ⟨#[],#[],[]⟩
 {W with heap:=W.heap.modify 0 fun
   | .cells _ t frozen=> .cells (Lib.deBruijn64tab.map λ n:Nat=>Value.int .u8 (n:Int)).toArray t frozen
   | o=>o }
theorem Zxf (os:Os)(args:Array Value):laidMet Tryz.prog [("math/bits.deBruijn64tab",Rows.laid_math_bits_deBruijn64tab)] ((Zkn os).forCall (λ _ _=>0) ⟨#[],args,[]⟩).memory :=
 laidMet_of_run' 8 (by kernel_rfl) (by kernel_rfl)
theorem Zvd:Tryz.pinned.checked.prog.inPlace 3=Rows.topCanonRow.inPlace:=by kernel_rfl
theorem Zof:Tryz.pinned.checked.prog.unfollowed 3=Rows.topCanonRow.unfollowed:=by kernel_rfl
theorem Zsc:Tryz.pinned.checked.prog.recurses 3=Rows.topCanonRow.recurses:=by kernel_rfl
theorem ZZ17:Tryz.pinned.checked.prog.varsNamed 3=Rows.topCanonRow.named:=by kernel_rfl
theorem jFacts3:joinedFacts Tryz.pinned.checked.prog 3 Tryz.f3 (OpenSpec.ofChange Rows.topCanonSpec).bare Rows.topCanonRow=true:=by
 unfold joinedFacts;rw[Zvd,Zof,Zsc,ZZ17];kernel_rfl
end Go.Proofs.YtjibcckpehdbhaaGreatDoor
#print axioms Go.Proofs.YtjibcckpehdbhaaGreatDoor.jFacts3
