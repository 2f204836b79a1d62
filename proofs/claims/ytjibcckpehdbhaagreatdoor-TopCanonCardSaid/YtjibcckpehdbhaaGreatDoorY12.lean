/-
  Texts of this claim: Gs3b, Gs4, Gs5, Gr3, Gr4, Tc1, Tc2, Tm1, Bt2.
-/
import Derived.Test.YtjibcckpehdbhaaGreatDoorY11
import Derived.Test.YtjibcckpehdbhaaGreatDoorY07
import Derived.Test.YtjibcckpehdbhaaGreatDoorY05
import Derived.Shelf.Spec.TrailingZeros
set_option maxHeartbeats 1000000
set_option linter.unusedSimpArgs false
set_option linter.unusedVariables false
set_option maxRecDepth 100000
namespace Go.Proofs.YtjibcckpehdbhaaGreatDoor
open Go.Px Go.Px.Scan Go.RowKit
attribute [-go_sem] Builtin.append_
theorem Zlz {w:World}{B:Nat}{v:Value}{l:List ByteArray}(h:(Zq rStr).at1 w B v l)(hB:B<=w.heap.size){g:FuncId}{first cap:Array Value}{p:ByteArray->Bool}
  (hp:∀x∈l,x.size<=maxLen->∀w,Ct Tryz.prog g (first.toList++[Value.string x]++cap.toList).toArray w λ v w'=>v = .bool (p x)/\Chg noB w w') :
  Ct Tryz.prog Zaq.id #[v,.func (.func g) first cap] w λ r w'=>(∃i,r = .int .i64 i/\(0<=i↔l.any p=true)/\i<=l.length)/\Chg noB w w':=by
 refine Zaq.ct λ R hR=>?_;obtain ⟨A,c,rfl,hl,hm,_⟩:=Zz h;unfold Zaq.run;simp -dsimp[go_sem];refine Zaq.l6_intro _ _ _ _ _ _ (λ x w1=>∃k:Nat,x = .int .i64 k/\k<=l.length/\(l.take k).any p=false/\Chg noB w w1) (λ x _=>l.length-iv x) ⟨0,rfl,by omega,by simp,Chg.refl _ _⟩ ?_;rintro _ w1 ⟨k,rfl,hk,hall,hcw⟩ C hC;simp -dsimp[go_sem];refine Za (λ h2=>?_) (λ h2=>?_)<;>simp at h2
 ·obtain ⟨b1,o1,rfl,hb1,hc1,hr1⟩:=Go.Px.strs_at (Rep.below h (hcw.below hB λ _ _=>id)) h2;have wk:=Zcv h2 (Qav hl hm);simp -dsimp[go_sem,h2,hc1];refine Zdx (hp l[k] (Qj h2) hr1 _) ?_;rintro _ w2 ⟨rfl,hc2⟩;refine Za (λ h3=>?_) (λ h3=>?_)
  ·refine hR _ _ ⟨⟨k,rfl,?_,by omega⟩,hcw.trans hc2⟩;refine ⟨λ _=>Qbc.2 ⟨_,Qj h2,h3⟩,λ _=>by omega⟩
  ·simp -dsimp[go_sem,wk];refine hC _ _ ⟨k+1,by simp,by omega,?_,hcw.trans hc2⟩ (by simp[iv];omega);rw[Qd h2,Qdr,hall];simp[h3]
 ·have hka:k=l.length:=by omega
  rw[hka,Qm]at hall;simp -dsimp[go_sem];exact hR _ _ ⟨⟨-1,rfl,by rw[hall];simp,by omega⟩,hcw⟩
theorem Zjd {w:World}{B:Nat}{v:Value}{l:List ByteArray}(h:(Zq rStr).at1 w B v l)(hB:B<=w.heap.size){g:FuncId}{first cap:Array Value}{p:ByteArray->Bool}
  (hp:∀x∈l,x.size<=maxLen->∀w,Ct Tryz.prog g (first.toList++[Value.string x]++cap.toList).toArray w λ v w'=>v = .bool (p x)/\Chg noB w w') :
  Ct Tryz.prog Zas.id #[v,.func (.func g) first cap] w λ r w'=>r = .bool (l.any p)/\Chg noB w w':=by
 refine Zas.ct λ R hR=>?_;unfold Zas.run;simp -dsimp[go_sem];refine Zi (Zlz h hB hp) ?_;rintro _ w1 ⟨⟨i,rfl,hi,_⟩,hc⟩;simp -dsimp[go_sem];refine hR _ _ ⟨?_,hc⟩;congr 1;cases ha:l.any p
 ·rw[ha]at hi;simpa using hi
 ·rw[ha]at hi;simpa using hi
theorem Zxj {w:World}{B:Nat}{v:Value}{l:List Int}(h:(Zq rInt).at1 w B v l){x:Int} :
  Ct Tryz.prog Zb1.id #[v,.int .i64 x] w λ r w'=>(∃i,r = .int .i64 i/\(0<=i↔x∈l))/\w=w':=by
 refine Zb1.ct λ R hR=>?_;obtain ⟨A,c,rfl,hl,hm,_⟩:=Zz h;unfold Zb1.run;simp -dsimp[go_sem];refine Zb1.l6_intro _ _ _ _ _ _ (λ y w1=>∃k:Nat,y = .int .i64 k/\k<=l.length/\x∉l.take k/\w=w1) (λ y _=>l.length-iv y) ⟨0,rfl,by omega,by simp,rfl⟩ ?_;rintro _ _ ⟨k,rfl,hk,hall,rfl⟩ C hC;simp -dsimp[go_sem];refine Za (λ h2=>?_) (λ h2=>?_)<;>simp at h2
 ·obtain ⟨b1,o1,rfl,hb1,hc1,hr1⟩:=Go.Px.ints_at h h2;have wk:=Zcv h2 (Qav hl hm);simp -dsimp[go_sem,h2,hc1];refine Za (λ h3=>?_) (λ h3=>?_)<;>simp at h3
  ·refine hR _ _ ⟨⟨k,rfl,?_⟩,rfl⟩;exact ⟨λ _=>by rw[h3];exact Qj h2,λ _=>by omega⟩
  ·simp -dsimp[go_sem,wk];have hno:x∉l.take (k+1):=by
    rw[Qd h2,Qk];simp[hall,h3]
   exact hC _ _ ⟨k+1,by simp,by omega,hno,rfl⟩ (by simp[iv];omega)
 ·have hka:k=l.length:=by omega
  rw[hka,Qm]at hall;simp -dsimp[go_sem];exact hR _ _ ⟨⟨-1,rfl,by simp[hall]⟩,rfl⟩
theorem Zor {w:World}{B:Nat}{v:Value}{l:List Int}(h:(Zq rInt).at1 w B v l){x:Int} :
  Ct Tryz.prog Zbw.id #[v,.int .i64 x] w λ r w'=>r = .bool (decide (x∈l))/\w=w':=by
 refine Zbw.ct λ R hR=>?_;unfold Zbw.run;simp -dsimp[go_sem];refine Zi (Zxj h) ?_;rintro _ _ ⟨⟨i,rfl,hi⟩,rfl⟩;simp -dsimp[go_sem];refine hR _ _ ⟨?_,rfl⟩;congr 1;exact decide_eq_decide.2 hi
theorem Zlk {w:World}{B:Nat}{v:Value}{g:Gr}(h:Zb7.atN w B v g)(hB:B<=w.heap.size){a:Nat}(ha:a<=1):Ct Tryz.prog Zcp.id #[v,.int .i64 a] w λ r w'=>r = .bool (symB g a)/\Chg noB w w':=by
 refine Zcp.ct λ R hR=>?_;obtain ⟨A1,c1,A2,c2,A3,c3,A4,c4,rfl,h1,h2,h3,h4,h5,⟨l1,m1⟩,⟨l2,m2⟩,⟨l3,m3⟩,⟨l4,m4⟩⟩:=(Zcg h).ex;have no:∀w',Chg noB w w'->¬Zjc g a->R (.returned (.bool false)) w':=λ w' hc hn=>hR _ _ ⟨by rw[Zeg Zgg hn],hc⟩;unfold Zcp.run Zcp.b1;simp -dsimp[go_sem];have h0:=(St.refl noB w).alloc (gQ A1 c1 A2 c2 A3 c3 A4 c4 g) 27;generalize w.heap.size=q at h0 |-;generalize w.alloc (.cells (gQ A1 c1 A2 c2 A3 c3 A4 c4 g) 27)=w1 at h0 |-;have k0:=h0.box 0 rfl;simp[Zw]at k0;have b29f:∀w',Chg noB w w'->¬Zjc g a->Zcp.b29 R (.int .i64 a) (.pointer (some ⟨q,0,none⟩)) (.bool true) w':=λ w' hc hn=>by
  simp -dsimp[go_sem];exact no _ hc hn
 refine Za (λ q1=>?_) (λ q1=>?_)<;>simp at q1
 ·exact b29f _ h0.chg λ hs=>by have:=hs.t0;rw[q1]at this;cases this
 have q1':0<g.terms.length:=Qa6.2 q1;obtain ⟨b1,o1,rfl,hb1,hc1,hc1',_,_⟩:=Ze0 (Rep.below h1 (h0.chg.below hB λ _ _=>id)) q1';simp at hc1 hc1';simp -dsimp[go_sem,k0,q1',hc1,hc1'];have t0:¬(g.terms[0].1.toList=[]/\g.terms[0].2=0)->¬Zjc g a:=λ hn hs=>by
  have h9:=hs.t0;rw[Qa7,Qb q1']at h9;injection h9 with h9;rw[h9]at hn;exact hn ⟨by rw[ByteArray.toList_eq],rfl⟩
 by_cases p1:g.terms[0].1.toList=[]
 case neg=>
  simp -dsimp[go_sem,p1];exact no _ h0.chg (t0 λ h=>p1 h.1)
 by_cases p2:g.terms[0].2=0
 case neg=>
  simp -dsimp[go_sem,p1,p2];exact no _ h0.chg (t0 λ h=>p2 h.2)
 have ht0:g.terms.head?=some (⟨#[]⟩,0):=by
  rw[Qa7,Qb q1'];congr 1;refine Prod.ext ?_ p2;exact Zoj (by rw[<-ByteArray.toList_eq];exact p1)
 clear t0;simp -dsimp[go_sem,p1,p2,k0];refine Za (λ q2=>?_) (λ q2=>?_)<;>simp at q2
 ·exact b29f _ h0.chg λ hs=>by have:=hs.n0;omega
 simp -dsimp[go_sem,k0];refine Za (λ q3=>?_) (λ q3=>?_)<;>simp at q3
 ·exact b29f _ h0.chg λ hs=>by have:=hs.t1;omega
 have w64:IntKind.i64.wrap (64+(a:Int))=64+a:=IntWalk.i64_in _ (by omega);simp -dsimp[go_sem,k0,w64];refine Za (λ q4=>?_) (λ q4=>?_)<;>simp at q4
 ·exact b29f _ h0.chg λ hs=>by have:=hs.n1;omega
 have w65:IntKind.i64.wrap ((g.terms.length:Int)-1)=(g.terms.length:Int)-1:=IntWalk.i64_in _ (by omega);have w66:IntKind.i64.wrap ((g.terms.length:Int)-1+g.nons.length)=(g.terms.length:Int)-1+g.nons.length:=IntWalk.i64_in _ (by omega);have w67:IntKind.i64.wrap ((g.terms.length:Int)-1+g.nons.length-a)=(g.terms.length:Int)-1+g.nons.length-a:=IntWalk.i64_in _ (by omega);simp -dsimp[go_sem,k0,w65,w66,w67];refine Za (λ q5=>?_) (λ q5=>?_)<;>simp at q5
 ·exact no _ h0.chg λ hs=>by have:=hs.sum;omega
 have h1':=h0.map Tryz.prog kInt 3 3;have k1:=h1'.box 0 rfl;simp[Zw]at k1;have l1':(1:Nat)<=g.terms.length:=q1';have l1'':(1:Int)<=g.terms.length:=by omega
 simp -dsimp[go_sem,mkInt,k1,l1''];have hT:=Ze8 (k:=1) (o':=o1+2) h1 l1' rfl;generalize (if c1=1 then some (⟨b1,o1,none⟩:Addr) else some ⟨b1,o1+2,none⟩)=AT at hT |-;generalize w1.heap.size=m at h1' |-;generalize w1.alloc (.map #[] 0)=w2 at h1' k1 |-;have htl:g.terms.drop 1=g.terms.tail:=by simp
 rw[htl]at hT;have hlen:g.terms.length-1=g.terms.tail.length:=by simp
 rw[hlen]at hT |-;generalize hE:g.terms.tail=tl at hT |-;have e1:∀t,t∈g.terms.tail↔t∈tl:=λ t=>by rw[hE]
 have n0:=h1'.nilRow 9 1;refine Zcp.l18_intro _ _ _ _ _ _ _ _ _ (λ x y w'=>∃(k:Nat) (n:Nat) (f:Int->Int) (A:Option Addr) (c:Nat),y = .int .i64 k/\x = .slice A k c/\k<=tl.length /\
  St noB w w' [boxC q 27 [.slice (some ⟨b1,o1,none⟩) g.terms.length c1,.slice A2 g.nons.length c2,.slice A3 g.levels.length c3,.int .i64 g.start,.slice A4 g.prods.length c4],mapC Tryz.prog kInt 3 3 (.map (some m)) n f,rowC 9 1 A k c ((tl.take k).map λ t=> .string t.1)] /\
  n<=k/\(∀x,f x≠0↔∃t∈tl.take k,t.2=x)/\(∀t∈tl.take k,Zoi g t)) (λ _ y _=>tl.length-iv y) ⟨0,0,_,none,0,rfl,rfl,by omega,by simpa using n0,by omega,by simp,by simp⟩ ?_
 rintro _ _ w3 ⟨k,n,f,A,c,rfl,rfl,hk,hst,hn,hf,hall⟩ C hC;have k3:=hst.box 0 rfl;simp[Zw]at k3;simp -dsimp[go_sem];refine Za (λ q6=>?_) (λ q6=>?_)
 ·have q6':k<tl.length:=by simpa using q6
  obtain ⟨b2,o2,rfl,hb2,d1,d2,d3,d4⟩:=Ze0 (Rep.below hT (hst.chg.below hB λ _ _=>id)) q6';have hst4:=hst.alloc #[.string tl[k].1,.int .i64 tl[k].2] 268;have hw4:(w3.alloc (.cells #[.string tl[k].1,.int .i64 tl[k].2] 268)).heap.size=w3.heap.size+1:=by simp
  have k4:=hst4.box 0 rfl;have kt:=hst4.box 3 rfl;simp[Zw]at k4 kt;simp -dsimp[go_sem,q6',d1,d2];generalize w3.alloc (.cells #[.string tl[k].1,.int .i64 tl[k].2] 268)=w4 at hst4 k4 kt hw4 |-;generalize w3.heap.size=tb at hst4 kt |-;refine Zi (Ztj d3 w4) ?_;rintro _ w5 ⟨rfl,hc5⟩;have hst5:=hst4.old hc5;clear k4 kt;have k4:=hst5.box 0 rfl;have kt:=hst5.box 3 rfl;simp[Zw]at k4 kt;have hmem:tl[k]∈tl:=Qj q6'
  cases htm:tmB tl[k].1 with
  | false=>
   simp -dsimp[go_sem];refine no _ hst5.chg λ hs=>?_;have:=Zg3.2 (hs.terms _ ((e1 _).2 hmem)).name;rw[this]at htm;cases htm
  | true=>
   simp -dsimp[go_sem,kt];refine Za (λ q7=>?_) (λ q7=>?_)<;>simp at q7
   ·simp -dsimp[go_sem];exact no _ hst5.chg λ hs=>by have:=(hs.terms _ ((e1 _).2 hmem)).lo;omega
   simp -dsimp[go_sem,kt,k4];refine Za (λ q8=>?_) (λ q8=>?_)<;>simp at q8
   ·exact no _ hst5.chg λ hs=>by have:=(hs.terms _ ((e1 _).2 hmem)).hi;omega
   have hk65:k<65:=by
    have:tl.length=g.terms.length-1:=by rw[<-hE];simp
    omega
   simp -dsimp[go_sem,kt];refine hst5.append1 2 rfl uStrs iStr rfl (by omega) (news:=[.string tl[k].1]) rfl (by simp[Value.oneCell']) (by unfold maxLen;omega) (by unfold Zaf;omega) ?_;intro g' cap w6 hst6;have k6:=hst6.box 3 rfl;simp[Zw]at k6;obtain ⟨w7,hrun,hst7⟩:=hst6.mapSet mInt 1 rfl tl[k].2 d4 (by unfold maxLen;omega) (x:=1) (by unfold Zdf;omega) (by omega);have hrun':(Instr.mapUpdate 269 (.map (some m)) (.int .i64 tl[k].2) (.int .i64 1)).run Tryz.prog w6=_:=hrun;have wk:=wS k (by omega);simp -dsimp[go_sem,k6,hrun',wk];have htk:tl.take (k+1)=tl.take k++[tl[k]]:=Qd q6';have em:(tl.take k).map (λ t=>Value.string t.1)++[.string tl[k].1]=(tl.take (k+1)).map (λ t=>Value.string t.1):=by rw[htk,Qu];rfl
   have h8:=hst7.take 3;rw[em]at h8;refine hC _ _ _ ⟨k+1,_,_,_,_,by simp,rfl,by omega,h8,?_,?_,?_⟩ (by simp[iv];omega)
   ·split<;>omega
   ·intro x;rw[htk];by_cases hx:x=tl[k].2
    ·rw[if_pos hx];exact ⟨λ _=>⟨tl[k],Qa2 _ (Qg.2 rfl),hx.symm⟩,λ _=>by omega⟩
    ·rw[if_neg hx,hf x];constructor
     ·rintro ⟨t,ht,e⟩;exact ⟨t,Q0 _ ht,e⟩
     ·rintro ⟨t,ht,e⟩;rcases Qk.1 ht with ht|ht
      ·exact ⟨t,ht,e⟩
      ·rw[Qg.1 ht]at e;exact absurd e.symm hx
   ·intro t ht;rw[htk]at ht;rcases Qk.1 ht with ht|ht
    ·exact hall t ht
    ·rw[Qg.1 ht];exact ⟨Zg3.1 htm,by omega,by omega⟩
 ·have hka:k=tl.length:=by
   have:¬k<tl.length:=by simpa using q6
   omega
  subst hka;rw[Qm]at hst hf hall;clear hC C;simp -dsimp[go_sem,k3];have nl:¬(∀i (h:i<g.levels.length),1<=g.levels[i]/\g.levels[i]<=3/\∃t∈tl,t.2=(i:Int)+1)->¬Zjc g a:=λ hn hs=>hn (by rw[<-hE];exact hs.levels);refine Zcp.l9_intro _ _ _ _ _ _ _ _ _ (λ y w'=>∃j:Nat,y = .int .i64 j/\j<=g.levels.length/\w3=w'/\∀i (h:i<g.levels.length),i<j->1<=g.levels[i]/\g.levels[i]<=3/\∃t∈tl,t.2=(i:Int)+1) (λ y _=>g.levels.length-iv y) ⟨0,rfl,by omega,rfl,λ i h h0=>by omega⟩ ?_;rintro _ _ ⟨j,rfl,hj,rfl,hjl⟩ C hC;simp -dsimp[go_sem];refine Za (λ q7=>?_) (λ q7=>?_)<;>simp at q7
  ·obtain ⟨b3,o3,rfl,hb3,d1,d2⟩:=Go.Px.ints_at (Rep.below h3 (hst.chg.below hB λ _ _=>id)) q7;have wj:=Zcv q7 (Qav l3 m3);simp -dsimp[go_sem,q7,d1];refine Za (λ q8=>?_) (λ q8=>?_)<;>simp at q8
   ·simp -dsimp[go_sem];exact no _ hst.chg (nl λ hn=>by have:=(hn j q7).1;omega)
   simp -dsimp[go_sem];refine Za (λ q9=>?_) (λ q9=>?_)<;>simp at q9
   ·simp -dsimp[go_sem];exact no _ hst.chg (nl λ hn=>by have:=(hn j q7).2.1;omega)
   have hg:(Instr.lookup 269 (.map (some m)) (.int .i64 ((j:Int)+1)) false).run Tryz.prog w3=_:=hst.mapGet mInt 1 rfl ((j:Int)+1) (by show Zdf _;unfold Zdf;unfold maxLen at m3;omega);simp -dsimp[go_sem,wj,hg];refine Za (λ q10=>?_) (λ q10=>?_)<;>simp at q10
   ·exact no _ hst.chg (nl λ hn=>absurd q10 ((hf _).2 (hn j q7).2.2))
   ·simp -dsimp[go_sem,wj];refine hC _ _ ⟨j+1,by simp,by omega,rfl,λ i hi hij=>?_⟩ (by simp[iv];omega);by_cases e:i=j
    ·subst e;exact ⟨by omega,by omega,(hf _).1 q10⟩
    ·exact hjl i hi (by omega)
  ·have hja:j=g.levels.length:=by omega
   subst hja;have hlev:∀i (h:i<g.levels.length),1<=g.levels[i]/\g.levels[i]<=3/\∃t∈tl,t.2=(i:Int)+1:=λ i h=>hjl i h h;obtain ⟨b4,o4,rfl,hb4,_⟩:=Go.Px.strs_at h2 q2;have q2':a<=g.nons.length:=by omega
   have hN:=Ze8 (k:=a) (o':=o4+a) h2 q2' (by simp[rStr]);have hN2:(Zq rStr).at1 w3 B _ _:=Rep.below hN (hst.chg.below hB λ _ _=>id);simp -dsimp[go_sem,k3,q2'];generalize (if c2=a then some (⟨b4,o4,none⟩:Addr) else some ⟨b4,o4+a,none⟩)=AN at hN hN2 |-;have hml:(g.nons.drop a).length=g.nons.length-a:=Q7;have hten:((tl.map (·.1)).map Value.string)=tl.map (λ t=>Value.string t.1):=by simp
   obtain ⟨FT,hoT,hFT⟩:=hst.get (k:=2) rfl;have hTx:(Zq rStr).at1 w3 w3.heap.size (.slice A tl.length c) (tl.map (·.1)):=by
    have:=Ziv (r:=rStr) (enc:=λ s=>[Value.string s]) (l:=tl.map (·.1)) (B:=w3.heap.size) (w:=w3) (base:=0) (e:=9) (v := .slice A tl.length c) (by
     have h9:=hoT.1
     rw[Qp,show (tl.map (·.1)).flatMap (λ s=>[Value.string s])=tl.map (λ t=>Value.string t.1) by
      rw[Qdp,Zq8]]
     exact h9) (λ _ _=>rfl) (λ x hx=>⟨rfl,by
      obtain ⟨t,ht,rfl⟩:=Qr.1 hx
      have:=(hall t ht).name.2.1
      unfold maxLen;omega⟩) (Ql _)
    exact this
   refine Zi (Zn5 hTx (Ql _)) ?_;rintro _ w4 ⟨rfl,hc4⟩;by_cases hd1:(tl.map (·.1)).Nodup
   case neg=>
    simp -dsimp[go_sem,hd1];exact no _ (hst.chg.trans hc4) λ hs=>hd1 (by rw[<-hE];exact hs.tnd)
   have hN4:=Rep.below hN2 (hc4.below (B:=B) (by have:=hst.chg.size;omega) λ _ _=>id);have hB4:B<=w4.heap.size:=by have:=hst.chg.size;have:=hc4.size;omega
   simp -dsimp[go_sem,hd1];refine Zi (Zn5 hN4 hB4) ?_;rintro _ w5 ⟨rfl,hc5⟩;by_cases hd2:(g.nons.drop a).Nodup
   case neg=>
    simp -dsimp[go_sem,hd2];exact no _ ((hst.chg.trans hc4).trans hc5) λ hs=>hd2 hs.nnd
   have hN5:=Rep.below hN4 (hc5.below hB4 λ _ _=>id);have hB5:B<=w5.heap.size:=by have:=hc5.size;omega
   simp -dsimp[go_sem,hd2];refine Zi (Zjd (p:=λ s=> !nmB s) hN5 hB5 λ x hx hsz w=>?_) ?_
   ·refine Zdw.ct λ R hR=>?_;unfold Zdw.run;simp -dsimp[go_sem];refine Zi (Zvy hsz w) ?_;rintro _ w' ⟨rfl,hc⟩;simp -dsimp[go_sem];exact hR _ _ ⟨rfl,hc⟩
   ·rintro _ w6 ⟨rfl,hc6⟩;simp -dsimp[go_sem];refine hR _ _ ⟨?_,((hst.chg.trans hc4).trans hc5).trans hc6⟩;congr 1;refine Zig ?_;rw[Zgg];constructor
    ·intro hb;refine ⟨ht0,q2,by omega,by omega,by omega,by rw[hE];exact hall,by rw[hE];exact hlev,by rw[hE];exact hd1,hd2,λ s hs=>?_⟩;refine Zg5.1 ?_
     cases e:nmB s with
     | true=>rfl
     | false=>
      have:(g.nons.drop a).any (λ s=> !nmB s)=true:=Qbc.2 ⟨s,hs,by simp[e]⟩;rw[this]at hb;cases hb
    ·intro hs
     cases e:(g.nons.drop a).any (λ s=> !nmB s) with
     | false=>rfl
     | true=>
      obtain ⟨s,h1,h2⟩:=Qbc.1 e;have:=Zg5.2 (hs.nnam s h1);rw[this]at h2;cases h2
theorem Zmo {G:Nat->Prop}{W w:World}{L:List Ch}(h:St G W w L)(k:Nat){a:Option Addr}{n c:Nat}{l:List Int}(hk:L[k]?=some (rowC 3 1 a n c (l.map (Value.int .i64 ·))))(hl:∀x∈l,Zdf x):(Zq rInt).at1 w w.heap.size (.slice a n c) l:=by
 obtain ⟨F,ho,_⟩:=h.get hk;have hn:n=l.length:=by have:=(Zee ho).1;simpa using this.symm
 subst hn;exact Ziv (r:=rInt) (enc:=λ x=>[Value.int .i64 x]) (base:=0) (e:=3) (by rw[Zq8];exact ho.1) (λ _ _=>rfl) (λ x hx=>⟨rfl,hl x hx⟩) (Ql _)
theorem Zgw {w:World}{B:Nat}{v:Value}{g:Gr}(h:Zb7.atN w B v g)(hB:B<=w.heap.size){a:Nat}(ha:a<=1)(hsy:Zjc g a):Ct Tryz.prog Zbu.id #[v,.int .i64 a] w λ r w'=>(∃vl,r = .tuple #[vl,.bool (Zvr g a)]/\(Zvr g a=true->(Zq rInt).at1 w' w'.heap.size vl (Zbi (g.prods.drop a))))/\Chg noB w w':=by
 refine Zbu.ct λ R hR=>?_;obtain ⟨A1,c1,A2,c2,A3,c3,A4,c4,rfl,h1,h2,h3,h4,h5,⟨l1,m1⟩,⟨l2,m2⟩,⟨l3,m3⟩,⟨l4,m4⟩⟩:=(Zcg h).ex;have t1:=hsy.t1;have n0:=hsy.n0;have n1:=hsy.n1;have no:∀w',Chg noB w w'->¬Zf4 g a->R (.returned (.tuple #[.slice none 0 0,.bool false])) w':=λ w' hc hn=>hR _ _ ⟨⟨_,by rw[Zeg Zew hn],λ h=>by rw[Zeg Zew hn]at h;cases h⟩,hc⟩;unfold Zbu.run Zbu.b1;simp -dsimp[go_sem];have h0:=(St.refl noB w).alloc (gQ A1 c1 A2 c2 A3 c3 A4 c4 g) 27;generalize w.heap.size=q at h0 |-;generalize w.alloc (.cells (gQ A1 c1 A2 c2 A3 c3 A4 c4 g) 27)=w1 at h0 |-;have k0:=h0.box 0 rfl;simp[Zw]at k0;refine Za (λ q1=>?_) (λ q1=>?_)<;>simp at q1
 ·simp -dsimp[go_sem];exact no _ h0.chg λ hs=>by have:=hs.c0;omega
 have w96:IntKind.i64.wrap (96+(a:Int))=96+a:=IntWalk.i64_in _ (by omega);simp -dsimp[go_sem,k0,w96];refine Za (λ q2=>?_) (λ q2=>?_)<;>simp at q2
 ·exact no _ h0.chg λ hs=>by have:=hs.c1;omega
 obtain ⟨b4,o4,vr,rfl,hb4,_⟩:=Zcc h5 q1;have q1':a<=g.prods.length:=by omega
 have ws:IntKind.i64.wrap ((g.terms.length:Int)+g.nons.length)=(g.terms.length:Int)+g.nons.length:=IntWalk.i64_in _ (by omega);have wl:IntKind.i64.wrap ((g.terms.length:Int)+a)=(g.terms.length:Int)+a:=IntWalk.i64_in _ (by omega);simp -dsimp[go_sem,k0,ws,wl,q1'];have hP:=Ze8 (k:=a) (o':=o4+a*3) h5 q1' (by simp[rPr,Rep.prod,rInt,Zq]);generalize (if c4=a then some (⟨b4,o4,none⟩:Addr) else some ⟨b4,o4+a*3,none⟩)=AP at hP |-;generalize hE:g.prods.drop a=pl at hP |-;have hpl:g.prods.length-a=pl.length:=by rw[<-hE];simp
 rw[hpl]at hP |-;have hpm:pl.length<=97:=by omega
 have n0':=h0.nilRow 3 1;refine Zbu.l8_intro _ _ _ _ _ _ _ _ _ _ (λ x y w'=>∃(k:Nat) (A:Option Addr) (n c:Nat),y = .int .i64 k/\x = .slice A n c/\k<=pl.length/\n=(Zbi (pl.take k)).length /\
  St noB w w' [boxC q 27 [.slice A1 g.terms.length c1,.slice A2 g.nons.length c2,.slice A3 g.levels.length c3,.int .i64 g.start,.slice (some ⟨b4,o4,none⟩) g.prods.length c4],rowC 3 1 A n c ((Zbi (pl.take k)).map (Value.int .i64 ·))] /\
  n<=k/\(∀p∈pl.take k,Zhq g a p)/\∀x∈Zbi (pl.take k),Zdf x) (λ _ y _=>pl.length-iv y) ⟨0,none,0,0,rfl,rfl,by omega,rfl,by simpa[Zbi]using n0',by omega,by simp,by simp[Zbi]⟩ ?_
 rintro _ _ w3 ⟨k,A,n,c,rfl,rfl,hk,hn,hst,hnk,hall,hin⟩ C hC;have k3:=hst.box 0 rfl;simp[Zw]at k3;simp -dsimp[go_sem];refine Za (λ q6=>?_) (λ q6=>?_)
 ·have q6':k<pl.length:=by simpa using q6
  obtain ⟨b2,o2,vr,rfl,hb2,d1,d2,d3,dr,i1,i2⟩:=Zcc (Rep.below hP (hst.chg.below hB λ _ _=>id)) q6';have hmem:pl[k]∈g.prods.drop a:=by rw[hE];exact Qj q6'
  obtain ⟨Ar,cr,rfl,lr,mr,_⟩:=Zz dr;have hst4:=hst.alloc #[.int .i64 pl[k].1,.slice Ar pl[k].2.1.length cr,.int .i64 pl[k].2.2] 103;have drw:=Rep.below dr (((Chg.refl noB w3).alloc (.cells #[.int .i64 pl[k].1,.slice Ar pl[k].2.1.length cr,.int .i64 pl[k].2.2] 103)).below (B:=B) (by have:=hst.chg.size;omega) λ _ _=>id);simp -dsimp[go_sem,q6',d1,d2,d3];generalize w3.alloc (.cells #[.int .i64 pl[k].1,.slice Ar pl[k].2.1.length cr,.int .i64 pl[k].2.2] 103)=w4 at hst4 drw |-;generalize w3.heap.size=tb at hst4 |-;have k4:=hst4.box 0 rfl;have kt:=hst4.box 2 rfl;simp[Zw]at k4 kt;have bad:¬Zhq g a pl[k]->¬Zf4 g a:=λ hn hs=>hn (hs.each _ hmem);refine Za (λ q7=>?_) (λ q7=>?_)<;>simp at q7
  ·simp -dsimp[go_sem];exact no _ hst4.chg (bad λ hs=>by have:=hs.l0;omega)
  simp -dsimp[go_sem,kt,k4];refine Za (λ q8=>?_) (λ q8=>?_)<;>simp at q8
  ·simp -dsimp[go_sem];exact no _ hst4.chg (bad λ hs=>by have:=hs.l1;omega)
  simp -dsimp[go_sem,kt,k4];refine Za (λ q9=>?_) (λ q9=>?_)<;>simp at q9
  ·simp -dsimp[go_sem];exact no _ hst4.chg (bad λ hs=>by have:=hs.v0;omega)
  simp -dsimp[go_sem,kt,k4];refine Za (λ q10=>?_) (λ q10=>?_)<;>simp at q10
  ·exact no _ hst4.chg (bad λ hs=>by have:=hs.v1;omega)
  simp -dsimp[go_sem,kt,k4];refine Zbu.l19_intro _ _ _ _ _ _ _ _ _ _ _ _ (λ y w'=>∃j:Nat,y = .int .i64 j/\j<=pl[k].2.1.length/\w4=w'/\∀s∈pl[k].2.1.take j,1<=s/\s<(g.terms.length+g.nons.length:Int)/\((g.terms.length:Int)<=s->(g.terms.length+a:Int)<=s)) (λ y _=>pl[k].2.1.length-iv y) ⟨0,rfl,by omega,rfl,by simp⟩ ?_;rintro _ _ ⟨j,rfl,hj,rfl,hjl⟩ C' hC';simp -dsimp[go_sem];refine Za (λ q11=>?_) (λ q11=>?_)<;>simp at q11
  ·obtain ⟨b3,o3,rfl,hb3,f1,f2⟩:=Go.Px.ints_at drw q11;have wj:=Zcv q11 (Qav lr mr);simp -dsimp[go_sem,q11,f1];have bad2:¬(1<=pl[k].2.1[j]/\pl[k].2.1[j]<(g.terms.length+g.nons.length:Int)/\((g.terms.length:Int)<=pl[k].2.1[j]->(g.terms.length+a:Int)<=pl[k].2.1[j]))->¬Zf4 g a:=λ hn=>bad λ hs=>hn (hs.right _ (Qj q11));refine Za (λ q12=>?_) (λ q12=>?_)<;>simp at q12
   ·simp -dsimp[go_sem];exact no _ hst4.chg (bad2 λ hs=>by omega)
   simp -dsimp[go_sem,k4];refine Za (λ q13=>?_) (λ q13=>?_)<;>simp at q13
   ·simp -dsimp[go_sem];exact no _ hst4.chg (bad2 λ hs=>by omega)
   simp -dsimp[go_sem,k4];have go:(1<=pl[k].2.1[j]/\pl[k].2.1[j]<(g.terms.length+g.nons.length:Int)/\((g.terms.length:Int)<=pl[k].2.1[j]->(g.terms.length+a:Int)<=pl[k].2.1[j]))->C' (.int .i64 ((j:Int)+1)) w4:=λ hg=>by
    refine hC' _ _ ⟨j+1,by simp,by omega,rfl,λ s hs=>?_⟩ (by simp[iv];omega);rw[Qd q11]at hs;rcases Qk.1 hs with hs|hs
    ·exact hjl s hs
    ·rw[Qg.1 hs];exact hg
   refine Za (λ q14=>?_) (λ q14=>?_)<;>simp at q14
   ·simp -dsimp[go_sem,wj];refine Za (λ q15=>?_) (λ q15=>?_)<;>simp at q15
    ·exact no _ hst4.chg (bad2 λ hs=>by omega)
    ·simp -dsimp[go_sem,wj];exact go (by omega)
   ·simp -dsimp[go_sem,wj];exact go (by omega)
  ·have hja:j=pl[k].2.1.length:=by omega
   subst hja;rw[Qm]at hjl;have hok:Zhq g a pl[k]:=⟨by omega,by omega,by omega,by omega,hjl⟩;have hlefts:=Zmo hst4 1 rfl hin;simp -dsimp[go_sem,kt];refine Zi (Zor hlefts) ?_;rintro _ _ ⟨rfl,rfl⟩;have wk:=wS k (by omega);have htk:pl.take (k+1)=pl.take k++[pl[k]]:=Qd q6';have hlt:Zbi (pl.take (k+1))=addL (Zbi (pl.take k)) pl[k].1:=by rw[htk,Zi2]
   have hall':∀p∈pl.take (k+1),Zhq g a p:=by
    intro p hp;rw[htk]at hp;rcases Qk.1 hp with hp|hp
    ·exact hall p hp
    ·rw[Qg.1 hp];exact hok
   by_cases hc:pl[k].1∈Zbi (pl.take k)
   ·have ha:addL (Zbi (pl.take k)) pl[k].1=Zbi (pl.take k):=if_pos hc;rw[ha]at hlt;simp -dsimp[go_sem,hc,wk];have h8:=hst4.take 2;rw[<-hlt]at h8;refine hC _ _ _ ⟨k+1,_,_,_,by simp,rfl,by omega,by rw[hlt];exact hn,h8,by omega,hall',?_⟩ (by simp[iv];omega);rw[hlt];exact hin
   ·have ha:addL (Zbi (pl.take k)) pl[k].1=Zbi (pl.take k)++[pl[k].1]:=if_neg hc;rw[ha]at hlt;simp -dsimp[go_sem,hc,kt];refine hst4.append1 1 rfl Zgn iInt rfl (by omega) (news:=[.int .i64 pl[k].1]) rfl (by simp[Value.oneCell']) (by unfold maxLen;omega) (by unfold Zaf;omega) ?_;intro g' cap w6 hst6;simp -dsimp[go_sem,wk];have h8:=hst6.take 2;have em:(Zbi (pl.take k)).map (Value.int .i64 ·)++[.int .i64 pl[k].1]=(Zbi (pl.take (k+1))).map (Value.int .i64 ·):=by rw[hlt,Qu];rfl
    rw[em]at h8;refine hC _ _ _ ⟨k+1,_,_,_,by simp,rfl,by omega,by rw[hlt,Qq,hn];rfl,h8,by omega,hall',?_⟩ (by simp[iv];omega);rw[hlt];intro x hx;rcases Qk.1 hx with hx|hx
    ·exact hin x hx
    ·rw[Qg.1 hx];exact i1
 ·have hka:k=pl.length:=by
   have:¬k<pl.length:=by simpa using q6
   omega
  subst hka;rw[Qm]at hst hall hn hin;clear hC C;have hstd:=hst.old ((Chg.refl noB w3).drew);have kd:=hstd.box 0 rfl;simp[Zw]at kd;have wn:IntKind.i64.wrap ((g.nons.length:Int)-a)=(g.nons.length:Int)-a:=IntWalk.i64_in _ (by omega);have hlefts:=Zmo hstd 1 rfl hin;simp -dsimp[go_sem,kd,k3,wn];have fin:∀b:Bool,(b=true↔Zf4 g a)->R (.returned (.tuple #[.slice A n c,.bool b])) w3.drew:=λ b hb=>
   hR _ _ ⟨⟨.slice A n c,(by rw[<-Zig (hb.trans Zew.symm)]),λ _=>by rw[hE];exact hlefts⟩,hstd.chg⟩
  have each:∀p∈g.prods.drop a,Zhq g a p:=by rw[hE];exact hall
  refine Za (λ q7=>?_) (λ q7=>?_)<;>simp at q7
  ·simp -dsimp[go_sem,kd,k3];refine Za (λ q8=>?_) (λ q8=>?_)<;>simp at q8
   ·simp -dsimp[go_sem,kd,k3];refine fin _ ?_;rw[decide_eq_true_iff];exact ⟨λ hs=>⟨by omega,by omega,each,by rw[hE,<-hn];omega,q8,hs⟩,λ hs=>hs.s1⟩
   ·exact fin false ⟨λ h=>(by cases h),λ hs=>by have:=hs.s0;omega⟩
  ·exact fin false ⟨λ h=>(by cases h),λ hs=>by have:=hs.lefts;rw[hE,<-hn]at this;omega⟩
def Zrq (g:Gr)(a:Nat):Prop:=∀p∈g.prods.drop a,Zhq g a p
open Classical in
noncomputable def ZZ91 (g:Gr)(a:Nat):Bool:=decide (Zrq g a)
theorem Zkh {g:Gr}{a:Nat}:ZZ91 g a=true↔Zrq g a:=@decide_eq_true_iff _ (_)
theorem Zpg {w:World}{B:Nat}{v:Value}{g:Gr}(h:Zb7.atN w B v g)(hB:B<=w.heap.size)(a:Nat)(ha:a<=1)(hs:g.terms.length+g.nons.length<=1000) :
  Ct Tryz.prog Zcw.id #[v,.int .i64 a,.int .i64 ((g.terms.length:Int)+a)] w λ r w'=>r = .bool (ZZ91 g a)/\Chg noB w w':=by
 refine Zcw.ct λ R hR=>?_;obtain ⟨A1,c1,A2,c2,A3,c3,A4,c4,rfl,⟨m1,m2,m3,m4⟩,_,hc0,hg⟩:=Zbg h hB;have no:∀w',Chg noB w w'->¬Zrq g a->R (.returned (.bool false)) w':=λ w' hc hn=>hR _ _ ⟨by rw[Zeg Zkh hn],hc⟩;unfold Zcw.run;simp -dsimp[go_sem];generalize hw1:w.alloc (.cells (gQ A1 c1 A2 c2 A3 c3 A4 c4 g) 27)=w1 at hc0 hg |-;have hz:∀w',Chg noB w1 w'->Zb7.atN w' B (.agg (gQ A1 c1 A2 c2 A3 c3 A4 c4 g)) g/\B<=w'.heap.size:=λ w' hc=>
  ⟨Zx h ((hc0.trans hc).below hB λ _ _=>id),(hg w' hc).sz⟩
 generalize w.heap.size=q at hg |-;generalize hE:g.prods.drop a=nl;have hnl:nl.length=g.prods.length-a:=by rw[<-hE];simp
 have hel:∀i (hi:i<nl.length),g.prods[a+i]'(by omega)=nl[i]:=λ i hi=>by simp[<-hE]
 refine Zcw.l6_intro _ _ _ _ _ (λ y w'=>∃j k:Nat,y = .int .i64 j/\j=a+k/\k<=nl.length/\Chg noB w1 w'/\∀p∈nl.take k,Zhq g a p) (λ y _=>g.prods.length+a-iv y) ⟨a,0,rfl,rfl,by omega,Chg.refl _ _,by simp⟩ ?_;rintro _ w2 ⟨j,k,rfl,hj,hk,hcw,hall⟩ C hC;have z2:=hg w2 hcw;simp -dsimp[go_sem,z2.k];refine Za (λ p1=>?_) (λ p1=>?_)<;>simp at p1
 ·have hk1:k<nl.length:=by omega
  have wj:IntKind.i64.wrap ((j:Int)+1)=(j:Int)+1:=IntWalk.i64_in _ (by unfold maxLen at m4;omega);obtain ⟨b2,o2,vr,rfl,hb2,d1,d2,d3,dr,i1,i2⟩:=Zcc z2.r4 p1;obtain ⟨Ar,cr,rfl,lr,mr,_⟩:=Zz dr;have hej:g.prods[j]=nl[k]:=by subst hj;exact hel k hk1
  have bad:¬Zhq g a g.prods[j]->¬Zrq g a:=λ hn hs=>hn (hs _ (by rw[hE,hej];exact Qj hk1));generalize hp:g.prods[j]=p at d1 d2 d3 dr i1 i2 lr bad;have s3:=(St.refl noB w2).alloc #[.int .i64 p.1,.slice Ar p.2.1.length cr,.int .i64 p.2.2] 103;have z3:=hg _ (hcw.trans s3.chg);simp -dsimp[go_sem,z2.k,p1,d1,d2,d3,z3.k];generalize w2.heap.size=pb at s3 |-;generalize w2.alloc (.cells #[.int .i64 p.1,.slice Ar p.2.1.length cr,.int .i64 p.2.2] 103)=w3 at s3 z3 |-;have y3:=s3.box 0 rfl;simp[Zw]at y3;have s3d:=s3.old ((Chg.refl noB w3).drew);have z3d:=hg _ (hcw.trans s3d.chg);have y3d:=s3d.box 0 rfl;simp[Zw]at y3d;refine Za (λ p2=>?_) (λ p2=>?_)<;>simp at p2
  ·simp -dsimp[go_sem];exact no _ (hc0.trans (hcw.trans s3d.chg)) (bad λ hs=>by have:=hs.l0;omega)
  simp -dsimp[go_sem,y3d,z3d.k];refine Zi (Zej (hz _ (hcw.trans s3d.chg)).1 (hz _ (hcw.trans s3d.chg)).2 hs) ?_;rintro _ w4 ⟨rfl,hc4⟩;have s4:=s3d.old hc4;have h4:=hcw.trans s4.chg;have z4:=hg _ h4;have y4:=s4.box 0 rfl;simp[Zw]at y4;simp -dsimp[go_sem,y4,z4.k];refine Za (λ p3=>?_) (λ p3=>?_)<;>simp at p3
  ·simp -dsimp[go_sem];exact no _ (hc0.trans h4) (bad λ hs=>by have:=hs.l1;omega)
  simp -dsimp[go_sem,y4,z4.k];refine Za (λ p4=>?_) (λ p4=>?_)<;>simp at p4
  ·simp -dsimp[go_sem];exact no _ (hc0.trans h4) (bad λ hs=>by have:=hs.v0;omega)
  simp -dsimp[go_sem,y4,z4.k];refine Za (λ p5=>?_) (λ p5=>?_)<;>simp at p5
  ·exact no _ (hc0.trans h4) (bad λ hs=>by have:=hs.v1;omega)
  have hB2:=z2.sz;simp -dsimp[go_sem];refine Zcw.l15_intro _ _ _ _ _ _ _ _ (λ y w'=>∃n:Nat,y = .int .i64 n/\n<=p.2.1.length/\St noB w2 w' [boxC pb 103 [.int .i64 p.1,.slice Ar p.2.1.length cr,.int .i64 p.2.2]] /\
   ∀s∈p.2.1.take n,1<=s/\s<(g.terms.length+g.nons.length:Int)/\((g.terms.length:Int)<=s->(g.terms.length+a:Int)<=s)) (λ y _=>p.2.1.length-iv y) ⟨0,rfl,by omega,s4,by simp⟩ ?_
  rintro _ w5 ⟨n,rfl,hn,s5,hr⟩ C' hC';have h5:=hcw.trans s5.chg;have z5:=hg _ h5;have y5:=s5.box 0 rfl;simp[Zw]at y5;simp -dsimp[go_sem,y5];refine Za (λ q1=>?_) (λ q1=>?_)<;>simp at q1
  ·obtain ⟨b6,o6,rfl,hb6,e1,e2⟩:=Go.Px.ints_at (Rep.below dr (s5.chg.below hB2 λ _ _=>id)) q1;have wn:=Zcv q1 (Qav lr mr);have bad2:¬(1<=p.2.1[n]/\p.2.1[n]<(g.terms.length+g.nons.length:Int)/\((g.terms.length:Int)<=p.2.1[n]->(g.terms.length+a:Int)<=p.2.1[n]))->¬Zrq g a:=λ hn=>bad λ hs=>hn (hs.right _ (Qj q1));simp -dsimp[go_sem,y5,q1,e1];refine Za (λ q2=>?_) (λ q2=>?_)<;>simp at q2
   ·simp -dsimp[go_sem];exact no _ (hc0.trans h5) (bad2 λ hs=>by omega)
   simp -dsimp[go_sem,z5.k];refine Zi (Zej (hz _ h5).1 (hz _ h5).2 hs) ?_;rintro _ w6 ⟨rfl,hc6⟩;have s6:=s5.old hc6;have h6:=hcw.trans s6.chg;have z6:=hg _ h6;simp -dsimp[go_sem];refine Za (λ q3=>?_) (λ q3=>?_)<;>simp at q3
   ·simp -dsimp[go_sem];exact no _ (hc0.trans h6) (bad2 λ hs=>by omega)
   have good:(1<=p.2.1[n]/\p.2.1[n]<(g.terms.length+g.nons.length:Int)/\((g.terms.length:Int)<=p.2.1[n]->(g.terms.length+a:Int)<=p.2.1[n]))->C' (.int .i64 ((n:Int)+1)) w6:=λ hg=>by
    refine hC' _ _ ⟨n+1,by simp,by omega,s6,λ s hs=>?_⟩ (by simp[iv];omega);rw[Qd q1]at hs;rcases Qk.1 hs with hs|hs
    ·exact hr s hs
    ·rw[Qg.1 hs];exact hg
   simp -dsimp[go_sem,z6.k];refine Za (λ q4=>?_) (λ q4=>?_)<;>simp at q4
   ·simp -dsimp[go_sem];refine Za (λ q5=>?_) (λ q5=>?_)<;>simp at q5
    ·exact no _ (hc0.trans h6) (bad2 λ hs=>by omega)
    ·simp -dsimp[go_sem,wn];exact good (by omega)
   ·simp -dsimp[go_sem,wn];exact good (by omega)
  ·have hna:n=p.2.1.length:=by omega
   subst hna;rw[Qm]at hr;simp -dsimp[go_sem,wj];refine hC _ _ ⟨j+1,k+1,by simp,by omega,by omega,h5,λ x hx=>?_⟩ (by simp[iv];omega);rw[Qd hk1]at hx;rcases Qk.1 hx with hx|hx
   ·exact hall x hx
   ·rw[Qg.1 hx,<-hej,hp];exact ⟨by omega,by omega,by omega,by omega,hr⟩
 ·have hka:k=nl.length:=by omega
  subst hka;rw[Qm]at hall;simp -dsimp[go_sem];refine hR _ _ ⟨?_,hc0.trans hcw⟩;rw[Zkh.2 (by unfold Zrq;rw[hE];exact hall)]
theorem Zqv {w:World}{B:Nat}{v:Value}{g:Gr}(h:Zb7.atN w B v g)(hB:B<=w.heap.size)(a:Nat)(ha:a<=1)(hp:g.prods.length<=1000) :
  Ct Tryz.prog Zdh.id #[v,.int .i64 a] w λ r w'=>(Zq rInt).at1 w' w'.heap.size r (Zbi (g.prods.drop a))/\Chg noB w w':=by
 refine Zdh.ct λ R hR=>?_;obtain ⟨A1,c1,A2,c2,A3,c3,A4,c4,rfl,⟨m1,m2,m3,m4⟩,_,hc0,hg⟩:=Zbg h hB;unfold Zdh.run;simp -dsimp[go_sem];generalize hw1:w.alloc (.cells (gQ A1 c1 A2 c2 A3 c3 A4 c4 g) 27)=w1 at hc0 hg |-;generalize w.heap.size=q at hg |-;generalize hE:g.prods.drop a=nl;rw[hE]at hR;have hnl:nl.length=g.prods.length-a:=by rw[<-hE];simp
 have hel:∀i (hi:i<nl.length),g.prods[a+i]'(by omega)=nl[i]:=λ i hi=>by simp[<-hE]
 have n0:=(St.refl noB w1).nilRow 3 1;refine Zdh.l6_intro _ _ _ _ _ (λ x y w'=>∃(j k:Nat) (A:Option Addr) (n c:Nat),y = .int .i64 j/\x = .slice A n c/\j=a+k/\k<=nl.length/\n=(Zbi (nl.take k)).length /\
  St noB w1 w' [rowC 3 1 A n c ((Zbi (nl.take k)).map (Value.int .i64 ·))]/\n<=k/\∀x∈Zbi (nl.take k),Zdf x) (λ _ y _=>g.prods.length+a-iv y) ⟨a,0,none,0,0,rfl,rfl,rfl,by omega,rfl,by simpa[Zbi]using n0,by omega,by simp[Zbi]⟩ ?_
 rintro _ _ w2 ⟨j,k,A,n,c,rfl,rfl,hj,hk,hn,hst,hnk,hin⟩ C hC;have z2:=hg w2 hst.chg;simp -dsimp[go_sem,z2.k];refine Za (λ p1=>?_) (λ p1=>?_)<;>simp at p1
 ·have hk1:k<nl.length:=by omega
  have wj:=wS j (by omega);have hej:g.prods[j]=nl[k]:=by subst hj;exact hel k hk1
  have htk:nl.take (k+1)=nl.take k++[nl[k]]:=Qd hk1;have hlt:Zbi (nl.take (k+1))=addL (Zbi (nl.take k)) nl[k].1:=by rw[htk,Zi2]
  have pr:∀w',Chg noB w2 w'->∃b o,A4=some ⟨b,o,none⟩/\w'.cell? ⟨b,o+j*3,none⟩=some (.int .i64 nl[k].1)/\Zdf nl[k].1:=λ w' hc=>by
   obtain ⟨b,o,vr,e,_,d1,_,_,_,i1,_⟩:=Zcc (hg w' (hst.chg.trans hc)).r4 p1;rw[hej]at d1 i1;exact ⟨b,o,e,d1,i1⟩
  have hLe:∃L,L=Zbi (nl.take k):=⟨_,rfl⟩;refine hLe.elim λ L hL=>?_;rw[<-hL]at hn hst hin hlt;subst hn;simp -dsimp[go_sem];refine Zdh.l16_intro _ _ _ _ _ _ _ _ (λ x y w'=>∃(i:Nat) (b:Bool),y = .int .i64 i/\x = .bool b/\i<=L.length/\St noB w1 w' [rowC 3 1 A L.length c (L.map (Value.int .i64 ·))]/\Chg noB w2 w'/\(b=true↔nl[k].1∈L.take i)) (λ _ y _=>L.length-iv y) ⟨0,false,rfl,rfl,by omega,hst,Chg.refl _ _,by simp⟩ ?_;rintro _ _ w3 ⟨i,b,rfl,rfl,hi,s3,hc3,hb⟩ C' hC';simp -dsimp[go_sem];refine Za (λ p2=>?_) (λ p2=>?_)<;>simp at p2
  ·have wi:=wS i (by omega);have hti:L.take (i+1)=L.take i++[L[i]]:=Qd p2;have s3d:=s3.old ((Chg.refl noB w3).drew);obtain ⟨g3,e3,x1,_⟩:=s3d.rowAt 0 rfl (j:=i) (by simpa using p2);subst e3;simp only[Q8]at x1
   cases b with
   | true=>
    simp -dsimp[go_sem,wi];refine hC' _ _ _ ⟨i+1,true,by simp,rfl,by omega,s3d,hc3.drew,?_⟩ (by simp[iv];omega);rw[hti,Qk];exact ⟨λ _=>Or.inl (hb.1 rfl),λ _=>rfl⟩
   | false=>
    obtain ⟨b4,o4,rfl,x2,_⟩:=pr _ hc3.drew;have zd:=hg _ s3d.chg;simp -dsimp[go_sem,zd.k,p1,p2,x1,x2,wi];refine hC' _ _ _ ⟨i+1,_,by simp,rfl,by omega,s3d,hc3.drew,?_⟩ (by simp[iv];omega);rw[hti,Qk,Qg,beq_iff_eq];constructor
    ·intro e;exact Or.inr e.symm
    ·rintro (h1|h1)
     ·exact absurd (hb.2 h1) (by simp)
     ·exact h1.symm
  ·have hia:i=L.length:=by omega
   subst hia;rw[Qm]at hb
   cases b with
   | true=>
    have ha':addL L nl[k].1=L:=if_pos (hb.1 rfl);rw[ha']at hlt;simp -dsimp[go_sem,wj];refine hC _ _ _ ⟨j+1,k+1,A,L.length,c,by simp,rfl,by omega,by omega,by rw[hlt],by rw[hlt];exact s3,by omega,by rw[hlt];exact hin⟩ (by simp[iv];omega)
   | false=>
    have hno:nl[k].1∉L:=λ h=>by have:=hb.2 h;cases this
    have ha':addL L nl[k].1=L++[nl[k].1]:=if_neg hno;rw[ha']at hlt;obtain ⟨b4,o4,rfl,x2,i2⟩:=pr _ hc3;have z3:=hg _ s3.chg;simp -dsimp[go_sem,z3.k,p1,x2];refine s3.append1 0 rfl Zgn iInt rfl (by omega) (news:=[.int .i64 nl[k].1]) rfl (by simp[Value.oneCell']) (by unfold maxLen;omega) (by unfold Zaf;omega) ?_;intro g' cap w6 h6;simp -dsimp[go_sem,wj];have em:L.map (Value.int .i64 ·)++[.int .i64 nl[k].1]=(Zbi (nl.take (k+1))).map (Value.int .i64 ·):=by rw[hlt,Qu];rfl
    rw[em]at h6;refine hC _ _ _ ⟨j+1,k+1,_,_,_,by simp,rfl,by omega,by omega,by rw[hlt,Qq];rfl,h6,by omega,?_⟩ (by simp[iv];omega);rw[hlt];intro x hx;rcases Qk.1 hx with hx|hx
    ·exact hin x hx
    ·rw[Qg.1 hx];exact i2
 ·have hka:k=nl.length:=by omega
  subst hka;rw[Qm]at hst hn hin;simp -dsimp[go_sem];exact hR _ _ ⟨Zmo hst 0 rfl hin,hc0.trans hst.chg⟩
def ZZ62 (g:Gr)(a:Nat):Prop:=Zjc g a/\Zf4 g a
open Classical in
noncomputable def ZZ69 (g:Gr)(a:Nat):Bool:=decide (ZZ62 g a)
theorem Zfx {g:Gr}{a:Nat}:ZZ69 g a=true↔ZZ62 g a:=@decide_eq_true_iff _ (_)
theorem Zj7 {g:Gr}(h0:g.terms.head?=some (⟨#[]⟩,0))(i:Nat):(∃t∈g.terms,t.2=(i:Int)+1)↔∃t∈g.terms.tail,t.2=(i:Int)+1:=by
 cases e:g.terms with
 | nil=>simp
 | cons t r=>
  rw[e]at h0;simp at h0;constructor
  ·rintro ⟨x,hx,hi⟩;rcases Qaa.1 hx with rfl|hx
   ·rw[h0]at hi;simp at hi;omega
   ·exact ⟨x,hx,hi⟩
  ·rintro ⟨x,hx,hi⟩;exact ⟨x,Qcf _ hx,hi⟩
theorem Zv0 {w:World}{B:Nat}{v:Value}{g:Gr}(h:Zb7.atN w B v g)(hB:B<=w.heap.size)(a:Nat)(ha:a<=1):Ct Tryz.prog Zeh.id #[v,.int .i64 a] w λ r w'=>r = .bool (ZZ69 g a)/\Chg noB w w':=by
 refine Zeh.ct λ R hR=>?_;obtain ⟨A1,c1,A2,c2,A3,c3,A4,c4,rfl,⟨m1,m2,m3,m4⟩,hst,hc0,hg⟩:=Zbg h hB;have no:∀w',Chg noB w w'->¬ZZ62 g a->R (.returned (.bool false)) w':=λ w' hc hn=>hR _ _ ⟨by rw[Zeg Zfx hn],hc⟩;unfold Zeh.run;have w64:IntKind.i64.wrap (64+(a:Int))=64+a:=IntWalk.i64_in _ (by omega);simp -dsimp[go_sem,w64];generalize hw1:w.alloc (.cells (gQ A1 c1 A2 c2 A3 c3 A4 c4 g) 27)=w1 at hc0 hg |-;have hz:∀w',Chg noB w1 w'->Zb7.atN w' B (.agg (gQ A1 c1 A2 c2 A3 c3 A4 c4 g)) g/\B<=w'.heap.size:=λ w' hc=>
  ⟨Zx h ((hc0.trans hc).below hB λ _ _=>id),(hg w' hc).sz⟩
 generalize w.heap.size=q at hg |-;have z1:=hg w1 (Chg.refl _ _);refine Za (λ q1=>?_) (λ q1=>?_)<;>simp at q1
 ·simp -dsimp[go_sem];exact no _ hc0 λ hs=>by have:=hs.1.n1;omega
 simp -dsimp[go_sem,z1.k];refine Za (λ q2=>?_) (λ q2=>?_)<;>simp at q2
 ·simp -dsimp[go_sem];exact no _ hc0 λ hs=>by have:=hs.1.t1;omega
 have w96:IntKind.i64.wrap (96+(a:Int))=96+a:=IntWalk.i64_in _ (by omega);simp -dsimp[go_sem,z1.k,w96];refine Za (λ q3=>?_) (λ q3=>?_)<;>simp at q3
 ·simp -dsimp[go_sem];exact no _ hc0 λ hs=>by have:=hs.2.c1;omega
 have wa1:IntKind.i64.wrap (1+(a:Int))=1+a:=IntWalk.i64_in _ (by omega);simp -dsimp[go_sem,z1.k,wa1];refine Za (λ q4=>?_) (λ q4=>?_)<;>simp at q4
 ·simp -dsimp[go_sem];exact no _ hc0 λ hs=>by have:=hs.2.c0;omega
 simp -dsimp[go_sem,z1.k];refine Za (λ q5=>?_) (λ q5=>?_)<;>simp at q5
 ·exact no _ hc0 λ hs=>by have:=hs.1.lev;omega
 have w65:IntKind.i64.wrap ((g.terms.length:Int)-1)=(g.terms.length:Int)-1:=IntWalk.i64_in _ (by omega);have w66:IntKind.i64.wrap ((g.terms.length:Int)-1+g.nons.length)=(g.terms.length:Int)-1+g.nons.length:=IntWalk.i64_in _ (by omega);have w67:IntKind.i64.wrap ((g.terms.length:Int)-1+g.nons.length-a)=(g.terms.length:Int)-1+g.nons.length-a:=IntWalk.i64_in _ (by omega);simp -dsimp[go_sem,z1.k,w65,w66,w67];refine Za (λ q6=>?_) (λ q6=>?_)<;>simp at q6
 ·exact no _ hc0 λ hs=>by
   have h1:=hs.1.sum;have h2:0<g.terms.length:=by
    have:=hs.1.t0
    cases e:g.terms with
    | nil=>rw[e]at this;cases this
    | cons t r=>simp
   have h3:=hs.1.n0;omega
 have hs:g.terms.length+g.nons.length<=1000:=by omega
 simp -dsimp[go_sem,z1.k];refine Zi (Zo1 (hz _ (Chg.refl _ _)).1 (hz _ (Chg.refl _ _)).2) ?_;rintro _ w2 ⟨rfl,hc2⟩;have z2:=hg _ hc2
 cases hT:Zv8 g with
 | false=>
  simp -dsimp[go_sem];exact no _ (hc0.trans hc2) λ hs=>by rw[Zf9.2 ⟨hs.1.t0,hs.1.terms,hs.1.tnd⟩]at hT;cases hT
 | true=>
  have hTP:=Zf9.1 hT;simp -dsimp[go_sem,z2.k];refine Zi (Zn4 (hz _ hc2).1 (hz _ hc2).2) ?_;rintro _ w3 ⟨rfl,hc3⟩;have h3:=hc2.trans hc3;have z3:=hg _ h3;simp -dsimp[go_sem,z3.k];refine Zi (Zst (hz _ h3).1 (hz _ h3).2 a ha) ?_;rintro _ w4 ⟨rfl,hc4⟩;have h4:=h3.trans hc4;have z4:=hg _ h4;have wl:IntKind.i64.wrap ((g.terms.length:Int)+a)=(g.terms.length:Int)+a:=IntWalk.i64_in _ (by omega);simp -dsimp[go_sem,z4.k,wl];refine Zi (Zpg (hz _ h4).1 (hz _ h4).2 a ha hs) ?_;rintro _ w5 ⟨rfl,hc5⟩;have h5:=h4.trans hc5;have z5:=hg _ h5;simp -dsimp[go_sem,z5.k];refine Zi (Zqv (hz _ h5).1 (hz _ h5).2 a ha (by omega)) ?_;rintro vl w6 ⟨hl,hc6⟩;obtain ⟨Al,cl,rfl,_⟩:=Zz hl;have h6:=h5.trans hc6;have h6d:=h6.drew;have z6:=hg _ h6;have z6d:=hg _ h6d;have hlev:=Zha (g:=g);have hnon:=Zj9 (g:=g) (a:=a);have hpf:=Zkh (g:=g) (a:=a);have nt0:∃n,g.terms.length=n+1:=by
   have:=hTP.1
   cases e:g.terms with
   | nil=>rw[e]at this;cases this
   | cons t r=>exact ⟨r.length,rfl⟩
  obtain ⟨nt,hnt⟩:=nt0
  cases hL:Zp0 g with
  | false=>
   simp -dsimp[go_sem];exact no _ (hc0.trans h6d) λ hs=>by
    have:Zjz g:=λ i hi=>⟨(hs.1.levels i hi).1,(hs.1.levels i hi).2.1,(Zj7 hTP.1 i).2 (hs.1.levels i hi).2.2⟩;rw[hlev.2 this]at hL;cases hL
  | true=>
   cases hN:ZZ28 g a with
   | false=>
    simp -dsimp[go_sem];exact no _ (hc0.trans h6d) λ hs=>by rw[hnon.2 ⟨hs.1.nnd,hs.1.nnam⟩]at hN;cases hN
   | true=>
    cases hP:ZZ91 g a with
    | false=>
     simp -dsimp[go_sem];exact no _ (hc0.trans h6d) λ hs=>by rw[hpf.2 hs.2.each]at hP;cases hP
    | true=>
     have hLP:=hlev.1 hL;have hNP:=hnon.1 hN;have hPP:=hpf.1 hP;have wn:IntKind.i64.wrap ((g.nons.length:Int)-a)=(g.nons.length:Int)-a:=IntWalk.i64_in _ (by omega);simp -dsimp[go_sem,z6d.k,wn];have lpos:0<(Zbi (g.prods.drop a)).length:=by
      have hp:0<(g.prods.drop a).length:=by simp;omega
      exact List.length_pos_of_mem (Zj1.2 ⟨(g.prods.drop a)[0],Qj hp,rfl⟩)
     refine Za (λ p1=>?_) (λ p1=>?_)<;>simp at p1
     ·simp -dsimp[go_sem,z6d.k,wl];refine Za (λ p2=>?_) (λ p2=>?_)<;>simp at p2
      ·simp -dsimp[go_sem,z6d.k];refine Zi (Zej (hz _ h6d).1 (hz _ h6d).2 hs) ?_;rintro _ w7 ⟨rfl,hc7⟩;have z7:=hg _ (h6d.trans hc7);simp -dsimp[go_sem,z7.k];refine hR _ _ ⟨?_,hc0.trans (h6d.trans hc7)⟩;congr 1;refine Zig ?_;rw[decide_eq_true_iff,Zfx];constructor
       ·intro p3;exact ⟨⟨hTP.1,by omega,by omega,by omega,by omega,hTP.2.1,λ i hi=>⟨(hLP i hi).1,(hLP i hi).2.1,(Zj7 hTP.1 i).1 (hLP i hi).2.2⟩,hTP.2.2,hNP.1,hNP.2⟩,
         ⟨by omega,by omega,hPP,by omega,by omega,by omega⟩⟩
       ·intro hs;exact hs.2.s1
      ·exact no _ (hc0.trans h6d) λ hs=>by have:=hs.2.s0;omega
     ·exact no _ (hc0.trans h6d) λ hs=>by have:=hs.2.lefts;omega
theorem Zpa {w:World}{B:Nat}{v:Value}{g:Gr}(h:Zb7.atN w B v g)(hB:B<=w.heap.size):Ct Tryz.prog Zd3.id #[v] w λ r w'=>r = .bool (Zn2 g)/\Chg noB w w':=by
 refine Zd3.ct λ R hR=>?_;obtain ⟨A1,c1,A2,c2,A3,c3,A4,c4,rfl,⟨m1,m2,m3,m4⟩,hst,hc0,hg⟩:=Zbg h hB;have no:∀w',Chg noB w w'->¬Zrf g->R (.returned (.bool false)) w':=λ w' hc hn=>hR _ _ ⟨by rw[Zeg Zgh hn],hc⟩;unfold Zd3.run;simp -dsimp[go_sem];generalize hw1:w.alloc (.cells (gQ A1 c1 A2 c2 A3 c3 A4 c4 g) 27)=w1 at hc0 hg |-;have hz:∀w',Chg noB w1 w'->Zb7.atN w' B (.agg (gQ A1 c1 A2 c2 A3 c3 A4 c4 g)) g/\B<=w'.heap.size:=λ w' hc=>
  ⟨Zx h ((hc0.trans hc).below hB λ _ _=>id),(hg w' hc).sz⟩
 generalize w.heap.size=q at hg |-;refine Zi (Zv0 (hz _ (Chg.refl _ _)).1 (hz _ (Chg.refl _ _)).2 0 (by omega)) ?_;rintro _ w2 ⟨rfl,hc2⟩;have z2:=hg _ hc2
 cases hF:ZZ69 g 0 with
 | false=>
  simp -dsimp[go_sem];exact no _ (hc0.trans hc2) λ hs=>by rw[Zfx.2 ⟨hs.syms,hs.prods⟩]at hF;cases hF
 | true=>
  have hFP:=Zfx.1 hF;have hsy:=hFP.1.sum;have ht1:=hFP.1.t1;have hn1:=hFP.1.n1;have hc1:=hFP.2.c1;simp -dsimp[go_sem,z2.k];refine Zi (Zqv (hz _ hc2).1 (hz _ hc2).2 0 (by omega) (by omega)) ?_;rintro vl w3 ⟨hl,hc3⟩;rw[Qdj]at hl;obtain ⟨Al,cl,rfl,hll,hml,_⟩:=Zz hl;have hrow:=hFP.2.row;have hlen:=hFP.2.lefts;rw[Qdj]at hlen;generalize hL:Zbi g.prods=L at *;simp -dsimp[go_sem];refine Zd3.l6_intro _ _ _ _ _ (λ y w'=>∃k:Nat,y = .int .i64 k/\k<=L.length/\Chg noB w3 w'/\∀i (hi:i<L.length),i<k->L[i]=(g.terms.length:Int)+i) (λ y _=>L.length-iv y) ⟨0,rfl,by omega,Chg.refl _ _,λ i hi h0=>by omega⟩ ?_;rintro _ w4 ⟨k,rfl,hk,hc4,hall⟩ C hC;simp -dsimp[go_sem];refine Za (λ p1=>?_) (λ p1=>?_)<;>simp at p1
  ·have z4:=hg _ ((hc2.trans hc3).trans hc4.drew);obtain ⟨b1,o1,rfl,hb1,x1,x2⟩:=Go.Px.ints_at (Rep.below hl (hc4.drew.below (Ql _) λ _ _=>id)) p1;have wk:=wS k (by omega);have wt:IntKind.i64.wrap ((g.terms.length:Int)+k)=(g.terms.length:Int)+k:=IntWalk.i64_in _ (by omega);simp -dsimp[go_sem,z4.k,p1,x1,wt];refine Za (λ p2=>?_) (λ p2=>?_)<;>simp at p2
   ·refine no _ (hc0.trans ((hc2.trans hc3).trans hc4.drew)) λ hv=>p2 ?_;have:=hrow.1 (by rw[<-hL];exact hv.sorted);exact this k p1
   ·simp -dsimp[go_sem,wk];refine hC _ _ ⟨k+1,by simp,by omega,hc4.drew,λ i hi hik=>?_⟩ (by simp[iv];omega);by_cases e:i=k
    ·subst e;exact p2
    ·exact hall i hi (by omega)
  ·simp -dsimp[go_sem];refine hR _ _ ⟨?_,hc0.trans ((hc2.trans hc3).trans hc4)⟩;rw[Zgh.2 ⟨hFP.1,hFP.2,by rw[hL];exact hrow.2 λ i hi=>hall i hi (by omega)⟩]
theorem Ziw {w:World}{B:Nat}{v:Value}{g:Gr}(h:Zb7.atN w B v g)(hB:B<=w.heap.size):Ct Tryz.prog Zdn.id #[v] w λ r w'=>r = .bool (Zka g)/\Chg noB w w':=by
 refine Zdn.ct λ R hR=>?_;obtain ⟨A1,c1,A2,c2,A3,c3,A4,c4,rfl,⟨m1,m2,m3,m4⟩,hst,hc0,hg⟩:=Zbg h hB;have no:∀w',Chg noB w w'->¬Zbn g->R (.returned (.bool false)) w':=λ w' hc hn=>hR _ _ ⟨by rw[Zeg Zc5 hn],hc⟩;unfold Zdn.run;simp -dsimp[go_sem];generalize hw1:w.alloc (.cells (gQ A1 c1 A2 c2 A3 c3 A4 c4 g) 27)=w1 at hc0 hg |-;have hz:∀w',Chg noB w1 w'->Zb7.atN w' B (.agg (gQ A1 c1 A2 c2 A3 c3 A4 c4 g)) g/\B<=w'.heap.size:=λ w' hc=>
  ⟨Zx h ((hc0.trans hc).below hB λ _ _=>id),(hg w' hc).sz⟩
 generalize w.heap.size=q at hg |-;have z1:=hg w1 (Chg.refl _ _);refine Za (λ q1=>?_) (λ q1=>?_)<;>simp at q1
 ·simp -dsimp[go_sem];exact no _ hc0 λ hs=>by have:=hs.syms.n0;omega
 have q1':0<g.nons.length:=by omega
 obtain ⟨b2,o2,rfl,hb2,d1,d2⟩:=Go.Px.strs_at z1.r2 q1';simp at d1;have hf:g.nons.head?=some g.nons[0]:=by rw[Qa7,Qb q1']
 simp -dsimp[go_sem,z1.k,q1',d1];refine Za (λ p1=>?_) (λ p1=>?_)<;>simp at p1
 ·simp -dsimp[go_sem];refine no _ hc0 λ hv=>p1 ?_;have h9:=hv.first;rw[hf]at h9;injection h9 with h9;rw[h9,ByteArray.toList_eq]
 have hfirst:g.nons.head?=some ⟨#[]⟩:=by
  rw[hf];congr 1;exact Zoj (by rw[<-ByteArray.toList_eq];exact p1)
 simp -dsimp[go_sem,z1.k];refine Za (λ p2=>?_) (λ p2=>?_)<;>simp at p2
 ·exact no _ hc0 λ hv=>by have:=hv.prods.c0;omega
 have hc0':0<g.prods.length:=by omega
 obtain ⟨b5,o5,vr,rfl,hb5,f1,f2,f3,fr,i1,i2⟩:=Zcc z1.r4 hc0';obtain ⟨Ar,cr,rfl,lr,mr,_⟩:=Zz fr;simp at f1 f2 f3;have hph:g.prods.head?=some g.prods[0]:=by rw[Qa7,Qb hc0']
 have bad:g.prods[0]≠((g.terms.length:Int),[g.start],0)->¬Zbn g:=λ hn hv=>by
  have:=hv.added;rw[hph]at this;injection this with this;exact hn this
 generalize hp:g.prods[0]=p at f1 f2 f3 fr bad lr;have s3:=(St.refl noB w1).alloc #[.int .i64 p.1,.slice Ar p.2.1.length cr,.int .i64 p.2.2] 103;have z3:=hg _ s3.chg;simp -dsimp[go_sem,z1.k,hc0',f1,f2,f3,z3.k];generalize w1.heap.size=pb at s3 |-;generalize w1.alloc (.cells #[.int .i64 p.1,.slice Ar p.2.1.length cr,.int .i64 p.2.2] 103)=w3 at s3 z3 |-;have s3d:=s3.old ((Chg.refl noB w3).drew);have z3d:=hg _ s3d.chg;have y3:=s3d.box 0 rfl;simp[Zw]at y3;have s4d:=s3d.old ((Chg.refl noB w3.drew).drew);have hcd:=hc0.trans s3d.chg;refine Za (λ p3=>?_) (λ p3=>?_)<;>simp at p3
 ·simp -dsimp[go_sem];exact no _ hcd (bad λ e=>p3 (by rw[e]))
 simp -dsimp[go_sem,y3,z3d.k];refine Za (λ p4=>?_) (λ p4=>?_)<;>simp at p4
 ·simp -dsimp[go_sem];exact no _ hcd (bad λ e=>p4 (by rw[e];rfl))
 have p4':0<p.2.1.length:=by omega
 obtain ⟨b6,o6,rfl,hb6,e1,e2⟩:=Go.Px.ints_at (Rep.below fr (s3d.chg.below z1.sz λ _ _=>id)) p4';simp at e1;have hl1:p.2.1=[p.2.1[0]]:=by
  apply Qaw;intro i
  cases i with
  | zero=>simp[Qb p4']
  | succ i=>simp;omega
 simp -dsimp[go_sem,y3,z3d.k,p4',e1];refine Za (λ p5=>?_) (λ p5=>?_)<;>simp at p5
 ·simp -dsimp[go_sem];refine no _ hcd (bad λ e=>p5 ?_);have e2:p.2.1=[g.start]:=by rw[e]
  simp only[e2,Qcp]
 simp -dsimp[go_sem,y3,z3d.k];refine Za (λ p6=>?_) (λ p6=>?_)<;>simp at p6
 ·exact no _ hcd (bad λ e=>p6 (by rw[e]))
 simp -dsimp[go_sem,z3d.k];refine Zi (Zv0 (hz _ s3d.chg).1 (hz _ s3d.chg).2 1 (by omega)) ?_;rintro _ w5 ⟨rfl,hc5⟩;refine hR _ _ ⟨?_,hcd.trans hc5⟩;congr 1;refine Zig ?_;rw[Zfx,Zc5];have hpe:p=((g.terms.length:Int),[g.start],0):=Prod.ext p3 (Prod.ext (by show p.2.1=[g.start];rw[hl1,p5]) p6);exact ⟨λ hs=>⟨hfirst,hs.1,hs.2,by rw[hph,hp,hpe]⟩,λ hv=>⟨hv.syms,hv.prods⟩⟩
end Go.Proofs.YtjibcckpehdbhaaGreatDoor
namespace Go.Px.Cn
open Go.Px
abbrev Prs:=List (Int×List Int×Int)
abbrev It:=Nat×Nat
abbrev It1:=It×Nat
def rgt (P:Prs)(p:Nat):List Int:=(P.getD p (0,[],0)).2.1
def lft (P:Prs)(p:Nat):Int:=(P.getD p (0,[],0)).1
def aft (P:Prs)(x:It):Option Int:=(rgt P x.1)[x.2]?
inductive Cl0 (P:Prs) (K:It->Prop):It->Prop
 | base {x:It}:K x->Cl0 P K x
 | step {x:It} {s:Int} {q:Nat}:Cl0 P K x->aft P x=some s->q<P.length->lft P q=s->Cl0 P K (q,0)
def Go0 (P:Prs)(K:It->Prop)(s:Int):It->Prop:=λ x=>∃y,Cl0 P K y/\aft P y=some s/\x=(y.1,y.2+1)
inductive R0 (P:Prs):(It->Prop)->Prop
 | start:R0 P (λ x=>x=(0,0))
 | step {K:It->Prop} {s:Int}:R0 P K->(∃x,Go0 P K s x)->R0 P (Go0 P K s)
inductive Cl1 (P:Prs) (FI:List Int->Nat->Nat->Prop) (K:It1->Prop):It1->Prop
 | base {z:It1}:K z->Cl1 P FI K z
 | step {x:It} {t:Nat} {s:Int} {q u:Nat}:Cl1 P FI K (x,t)->aft P x=some s->q<P.length->lft P q=s->FI ((rgt P x.1).drop (x.2+1)) t u->Cl1 P FI K ((q,0),u)
def Go1 (P:Prs)(S:It1->Prop)(s:Int):It1->Prop:=λ z=>∃y,S (y,z.2)/\aft P y=some s/\z.1=(y.1,y.2+1)
inductive R1 (P:Prs) (FI:List Int->Nat->Nat->Prop):(It1->Prop)->Prop
 | start:R1 P FI (Cl1 P FI (λ z=>z=((0,0),0)))
 | step {S:It1->Prop} {s:Int}:R1 P FI S->(∃z,Go1 P S s z)->R1 P FI (Cl1 P FI (Go1 P S s))
def Core (S:It1->Prop):It->Prop:=λ x=>∃t,S (x,t)
section
variable {P:Prs} {FI:List Int->Nat->Nat->Prop}
theorem Cl0.mono {K K':It->Prop}(h:∀x,K x->K' x){x:It}(hx:Cl0 P K x):Cl0 P K' x:=by
 induction hx with
 | base h1=>exact .base (h _ h1)
 | step _ h2 h3 h4 ih=>exact .step ih h2 h3 h4
theorem Cl0.congr {K K':It->Prop}(h:∀x,K x↔K' x)(x:It):Cl0 P K x↔Cl0 P K' x:=⟨Cl0.mono λ x=>(h x).1,Cl0.mono λ x=>(h x).2⟩
theorem Ztf (hne:∀x s t,aft P x=some s->∃u,FI ((rgt P x.1).drop (x.2+1)) t u){K:It1->Prop}(x:It):Core (Cl1 P FI K) x↔Cl0 P (Core K) x:=by
 constructor
 ·rintro ⟨t,h⟩;generalize e:(x,t)=z at h
  induction h generalizing x t with
  | base h1=>subst e;exact .base ⟨t,h1⟩
  | step h1 h2 h3 h4 h5 ih=>
   injection e with e1 e2;subst e1;exact .step (ih _ _ rfl) h2 h3 h4
 ·intro h
  induction h with
  | base h1=>obtain ⟨t,h1⟩:=h1;exact ⟨t,.base h1⟩
  | step h1 h2 h3 h4 ih=>
   obtain ⟨t,ht⟩:=ih;obtain ⟨u,hu⟩:=hne _ _ t h2;exact ⟨u,.step ht h2 h3 h4 hu⟩
theorem Zmm {S:It1->Prop}{K:It->Prop}(h:∀x,Core S x↔Cl0 P K x)(s:Int)(x:It):Core (Go1 P S s) x↔Go0 P K s x:=by
 constructor
 ·rintro ⟨t,y,h1,h2,h3⟩;exact ⟨y,(h y).1 ⟨t,h1⟩,h2,h3⟩
 ·rintro ⟨y,h1,h2,rfl⟩;obtain ⟨t,ht⟩:=(h y).2 h1;exact ⟨t,y,ht,h2,rfl⟩
theorem Zf8 (hne:∀x s t,aft P x=some s->∃u,FI ((rgt P x.1).drop (x.2+1)) t u){S:It1->Prop}{K:It->Prop}(h:∀x,Core S x↔Cl0 P K x)(s:Int)(x:It):Core (Cl1 P FI (Go1 P S s)) x↔Cl0 P (Go0 P K s) x :=
 (Ztf hne x).trans (Cl0.congr (Zmm h s) x)
theorem Zgb (hne:∀x s t,aft P x=some s->∃u,FI ((rgt P x.1).drop (x.2+1)) t u)(x:It):Core (Cl1 P FI (λ z=>z=((0,0),0))) x↔Cl0 P (λ x=>x=(0,0)) x :=
 (Ztf hne x).trans (Cl0.congr (λ x=>⟨λ ⟨t,h⟩=>by injection h,λ h=>⟨0,by rw[h]⟩⟩) x)
theorem R1.core (hne:∀x s t,aft P x=some s->∃u,FI ((rgt P x.1).drop (x.2+1)) t u){S:It1->Prop}(h:R1 P FI S):∃K,R0 P K/\∀x,Core S x↔Cl0 P K x:=by
 induction h with
 | start=>exact ⟨_,.start,Zgb hne⟩
 | @step S s h1 h2 ih=>
  obtain ⟨K,hK,hc⟩:=ih;obtain ⟨⟨x,t⟩,h2⟩:=h2;exact ⟨_,.step (s:=s) hK ⟨x,(Zmm hc s x).1 ⟨t,h2⟩⟩,Zf8 hne hc s⟩
theorem R0.ne {K:It->Prop}(h:R0 P K):∃x,K x:=by
 cases h with
 | start=>exact ⟨_,rfl⟩
 | step _ h=>exact h
theorem R0.dots {K:It->Prop}(h:R0 P K):(∀x,K x↔x=(0,0))\/∀x,K x->0<x.2:=by
 cases h with
 | start=>exact Or.inl λ _=>Iff.rfl
 | step _ _=>exact Or.inr λ x=>by rintro ⟨y,_,_,rfl⟩;exact Nat.succ_pos _
theorem Cl0.dot {K:It->Prop}{x:It}(h:Cl0 P K x)(hd:0<x.2):K x:=by
 cases h with
 | base h=>exact h
 | step=>exact absurd hd (Qbo 0)
theorem R0.inj {K K':It->Prop}(h:R0 P K)(h':R0 P K')(he:∀x,Cl0 P K x↔Cl0 P K' x)(x:It):K x↔K' x:=by
 have no:∀{K K':It->Prop},(∀x,K x↔x=(0,0))->R0 P K'->(∀x,K' x->0<x.2)->(∀x,Cl0 P K' x->Cl0 P K x)->False:=by
  intro K K' h1 h2 h3 h4;obtain ⟨y,hy⟩:=h2.ne;have:=(h1 y).1 ((h4 y (.base hy)).dot (h3 y hy));have h5:=h3 y hy;rw[this]at h5;exact Qbo 0 h5
 rcases h.dots with h1|h1<;>rcases h'.dots with h2|h2
 ·rw[h1,h2]
 ·exact (no h1 h' h2 λ x=>(he x).2).elim
 ·exact (no h2 h h1 λ x=>(he x).1).elim
 ·exact ⟨λ hx=>((he x).1 (.base hx)).dot (h1 x hx),λ hx=>((he x).2 (.base hx)).dot (h2 x hx)⟩
end
def itLt (x y:It):Prop:=x.1<y.1\/x.1=y.1/\x.2<y.2
theorem Zjx {α:Type}{lt:α->α->Prop}(hir:∀x,¬lt x x)(htr:∀x y z,lt x y->lt y z->lt x z):∀{a b:List α},a.Pairwise lt->b.Pairwise lt->(∀x,x∈a↔x∈b)->a=b
 | [],[],_,_,_=>rfl
 | [],y::b,_,_,h=>absurd ((h y).2 (by simp)) (by simp)
 | x::a,[],_,_,h=>absurd ((h x).1 (by simp)) (by simp)
 | x::a,y::b,ha,hb,h=>by
  rw[Qcc]at ha hb
  have e:x=y:=by
   rcases Qaa.1 ((h x).1 (by simp)) with e|h1
   ·exact e
   ·rcases Qaa.1 ((h y).2 (by simp)) with e|h2
    ·exact e.symm
    ·exact absurd (htr _ _ _ (ha.1 y h2) (hb.1 x h1)) (hir x)
  subst e
  congr 1
  refine Zjx hir htr ha.2 hb.2 λ z=>⟨λ hz=>?_,λ hz=>?_⟩
  ·rcases Qaa.1 ((h z).1 (by simp[hz])) with e|h1
   ·subst e;exact absurd (ha.1 z hz) (hir z)
   ·exact h1
  ·rcases Qaa.1 ((h z).2 (by simp[hz])) with e|h1
   ·subst e;exact absurd (hb.1 z hz) (hir z)
   ·exact h1
theorem Zie (x:It):¬itLt x x:=by unfold itLt;omega
theorem Zlw (x y z:It)(h1:itLt x y)(h2:itLt y z):itLt x z:=by unfold itLt at *;omega
theorem Zkp {a b:List It}(ha:a.Pairwise itLt)(hb:b.Pairwise itLt)(h:∀x,x∈a↔x∈b):a=b:=Zjx Zie Zlw ha hb h
structure Lr0 (P:Prs)(ks:List (List It)):Prop where
 start:[(0,0)]∈ks
 r0:∀l∈ks,R0 P (·∈l)
 go:∀l∈ks,∀s,(∃x,Go0 P (·∈l) s x)->∃l'∈ks,∀x,x∈l'↔Go0 P (·∈l) s x
 srt:∀l∈ks,l.Pairwise itLt
 nd:ks.Nodup
structure Lr1 (P:Prs)(FI:List Int->Nat->Nat->Prop)(sts:List (List It1)):Prop where
 start:∃a∈sts,∀z,z∈a↔Cl1 P FI (λ z=>z=((0,0),0)) z
 r1:∀a∈sts,R1 P FI (·∈a)
 go:∀a∈sts,∀s,(∃z,Go1 P (·∈a) s z)->∃a'∈sts,∀z,z∈a'↔Cl1 P FI (Go1 P (·∈a) s) z
section
variable {P:Prs} {FI:List Int->Nat->Nat->Prop} {ks:List (List It)} {sts:List (List It1)}
theorem Go0.congr {K K':It->Prop}(h:∀x,K x↔K' x)(s:Int)(x:It):Go0 P K s x↔Go0 P K' s x :=
 ⟨λ ⟨y,h1,h2,h3⟩=>⟨y,(Cl0.congr h y).1 h1,h2,h3⟩,λ ⟨y,h1,h2,h3⟩=>⟨y,(Cl0.congr h y).2 h1,h2,h3⟩⟩
theorem Lr0.all (h:Lr0 P ks){K:It->Prop}(hK:R0 P K):∃l∈ks,∀x,x∈l↔K x:=by
 induction hK with
 | start=>exact ⟨_,h.start,λ x=>by simp⟩
 | @step K s h1 h2 ih=>
  obtain ⟨l,hl,he⟩:=ih;obtain ⟨x,hx⟩:=h2;obtain ⟨l',hl',he'⟩:=h.go l hl s ⟨x,(Go0.congr he s x).2 hx⟩;exact ⟨l',hl',λ x=>(he' x).trans (Go0.congr he s x)⟩
theorem Lr1.all (hne:∀x s t,aft P x=some s->∃u,FI ((rgt P x.1).drop (x.2+1)) t u)(h:Lr1 P FI sts){K:It->Prop}(hK:R0 P K):∃a∈sts,∀x,Core (·∈a) x↔Cl0 P K x:=by
 induction hK with
 | start=>
  obtain ⟨a,ha,he⟩:=h.start;refine ⟨a,ha,λ x=>Iff.trans ?_ (Zgb hne x)⟩;exact ⟨λ ⟨t,ht⟩=>⟨t,(he _).1 ht⟩,λ ⟨t,ht⟩=>⟨t,(he _).2 ht⟩⟩
 | @step K s h1 h2 ih=>
  obtain ⟨a,ha,he⟩:=ih;obtain ⟨x,hx⟩:=h2;obtain ⟨t,ht⟩:=(Zmm he s x).2 hx;obtain ⟨a',ha',he'⟩:=h.go a ha s ⟨_,ht⟩;refine ⟨a',ha',λ x=>Iff.trans ?_ (Zf8 hne he s x)⟩;exact ⟨λ ⟨t,ht⟩=>⟨t,(he' _).1 ht⟩,λ ⟨t,ht⟩=>⟨t,(he' _).2 ht⟩⟩
end
def vanS (nT:Nat)(null:List Bool)(s:Int):Bool:=decide ((nT:Int)<=s) && null.getD (s-nT).toNat false
def fstB (nT:Nat)(null:List Bool)(has:List (List Bool)):List Int->Nat->Bool
 | [],_=>false
 | s::r,u=>(has.getD s.toNat []).getD u false || (vanS nT null s && fstB nT null has r u)
def FI (nT:Nat)(null:List Bool)(has:List (List Bool))(rest:List Int)(t u:Nat):Prop:=fstB nT null has rest u=true\/(rest.all (vanS nT null)=true/\u=t)
inductive Pd (nT:Nat) (P:Prs):Int->Prop
 | term {x:Int}:0<=x->x<nT->Pd nT P x
 | non {p:Int×List Int×Int}:p∈P->(∀s∈p.2.1,Pd nT P s)->Pd nT P p.1
structure Zo0 (nT:Nat)(P:Prs)(null:List Bool)(has:List (List Bool)):Prop where
 nul:∀p∈P,p.2.1.all (vanS nT null)=true->vanS nT null p.1=true
 term:∀i:Nat,i<nT->(has.getD i []).getD i false=true
 row:∀p∈P,∀u,fstB nT null has p.2.1 u=true->(has.getD p.1.toNat []).getD u false=true
section
variable {nT:Nat} {P:Prs} {null:List Bool} {has:List (List Bool)}
theorem Zm2 {r:List Int}(h:∀s∈r,vanS nT null s=true\/∃u,(has.getD s.toNat []).getD u false=true):r.all (vanS nT null)=true\/∃u,fstB nT null has r u=true:=by
 induction r with
 | nil=>exact Or.inl rfl
 | cons s r ih=>
  rcases h s (by simp) with h1|⟨u,hu⟩
  ·rcases ih λ x hx=>h x (by simp[hx]) with h2|⟨u,hu⟩
   ·exact Or.inl (by rw[List.all_cons,h1,h2];rfl)
   ·exact Or.inr ⟨u,by rw[fstB,h1,hu];simp⟩
  ·exact Or.inr ⟨u,by rw[fstB,hu];rfl⟩
theorem Pd.begin (hT:Zo0 nT P null has){s:Int}(h:Pd nT P s):vanS nT null s=true\/∃u,(has.getD s.toNat []).getD u false=true:=by
 induction h with
 | @term x h0 h1=>exact Or.inr ⟨x.toNat,hT.term _ (by omega)⟩
 | @non p h1 h2 ih=>
  rcases Zm2 ih with h3|⟨u,hu⟩
  ·exact Or.inl (hT.nul p h1 h3)
  ·exact Or.inr ⟨u,hT.row p h1 u hu⟩
theorem fi_ne (hT:Zo0 nT P null has)(hP:∀p∈P,∀s∈p.2.1,Pd nT P s)(x:It)(s:Int)(t:Nat)(hx:aft P x=some s):∃u,FI nT null has ((rgt P x.1).drop (x.2+1)) t u:=by
 have hm:∀y∈(rgt P x.1).drop (x.2+1),Pd nT P y:=λ y hy=>by
  have hy:=Qb2 hy;unfold rgt at hy;by_cases hp:x.1<P.length
  ·rw[Qc,Qb hp]at hy;exact hP _ (Qj hp) y hy
  ·rw[Qc,Qx (by omega)]at hy;simp at hy
 rcases Zm2 (null:=null) (has:=has) λ y hy=>(hm y hy).begin hT with h|⟨u,hu⟩
 ·exact ⟨t,Or.inr ⟨h,rfl⟩⟩
 ·exact ⟨u,Or.inl hu⟩
end
end Go.Px.Cn
namespace Go.Px
open Classical in
theorem Zq0 {p:Nat->Prop}:∀(n:Nat),p n->∃m,p m/\∀k,p k->m<=k:=by
 intro n
 induction n using Nat.strongRecOn with
 | _ n ih=>
  intro h;by_cases e:∃k,k<n/\p k
  ·obtain ⟨k,h1,h2⟩:=e;exact ih k h1 h2
  ·exact ⟨n,h,λ k hk=>Qc8 λ hlt=>e ⟨k,hlt,hk⟩⟩
open Classical in
noncomputable def muOf (K:World->Nat->Prop)(w:World):Nat:=if h:∃m,K w m/\∀k,K w k->m<=k then h.choose else 0
theorem Zfw {K:World->Nat->Prop}{w:World}{f:Nat}(h:K w f):muOf K w<=f:=by
 have h1:=Zq0 (p:=K w) f h;unfold muOf;rw[dif_pos h1];exact h1.choose_spec.2 f h
theorem Zfy {K:World->Nat->Prop}{w:World}(h:∃f,K w f):K w (muOf K w):=by
 obtain ⟨f,h⟩:=h;have h1:=Zq0 (p:=K w) f h;unfold muOf;rw[dif_pos h1];exact h1.choose_spec.1
end Go.Px
namespace Go.Px.Scan
open Go.Px
def okS (nT:Int)(ms:List Bool)(s:Int):Bool:=decide (s<nT) || ms.getD (s-nT).toNat false
def Zaz (ms:List Bool):List Value:=ms.map Value.bool
theorem Zex (ms:List Bool):(Zaz ms).length=ms.length:=by simp[Zaz]
end Go.Px.Scan
namespace Go.Proofs.YtjibcckpehdbhaaGreatDoor
open Go.Px Go.Px.Scan Go.RowKit
attribute [-go_sem] Builtin.append_ Zcy.b12 Zcy.b3
theorem ZZ200:(Tryz.prog.info? 4).map (λ i=>(i.zero,i.size,i.bytes))=some (some (.bool false),1,1):=by kernel_rfl
theorem Zg2 (w:World)(n:Nat)(h:n<=2*Zaf):(Instr.makeSlice 105 (.int .i64 n) (.int .i64 n)).run Tryz.prog w = .ok (.slice (some ⟨w.heap.size,0,none⟩) n n) (w.alloc (.cells (Array.replicate n (Value.bool false)) 4)):=by
 obtain ⟨i0,hi,hz0,hz1,hz2⟩:=info_parts ZZ200;unfold Zaf at h;have:=run_make (P:=Tryz.prog) w 105 4 i0 _ Tryz.underlying105 hi hz0 .i64 .i64 n n (by omega) (by omega) (by rw[hz2];omega) (by omega);rw[this];have e:madeCells (Value.bool false).cells ((n:Int).toNat*i0.size)=Array.replicate n (Value.bool false):=by
  rw[hz1,Qb7,Qax];have:=toList_madeCells_one (Value.bool false) n;apply Qcx.1;rw[Qa8];exact this
 rw[e];simp
theorem Zui {G:Nat->Prop}{W w:World}{L:List Ch}(s:St G W w L){k m N:Nat}{ms:List Bool}(hN:ms.length=N)(hk:L[k]?=some (rowC 4 1 (some ⟨m,0,none⟩) N N (Zaz ms)))
  {B:Nat} {vg vr:Value} {g:Gr} {row:List Int} (hg:Zb7.atN w B vg g) (hrow:(Zq rInt).at1 w B vr row) (hB:B<=w.heap.size) (hT:g.terms.length<=65) (hms:∀x∈row,x<g.terms.length+ms.length) :
  Ct Tryz.prog Zcy.id #[vg,.slice (some ⟨m,0,none⟩) N N,vr] w λ v w'=>v = .bool (row.all (okS g.terms.length ms))/\Chg noB w w':=by
 subst hN;refine Zcy.ct λ R hR=>?_;obtain ⟨A1,c1,A2,c2,A3,c3,A4,c4,rfl,⟨m1,m2,m3,m4⟩,hst,hc0,hgr⟩:=Zbg hg hB;obtain ⟨A,c,rfl,hl,hm,_⟩:=Zz hrow;have hmm:=(s.rowSize k hk).2.2;unfold Zcy.run;simp -dsimp[go_sem];have s1:=s.alloc (gQ A1 c1 A2 c2 A3 c3 A4 c4 g) 27;have hkl:=(Qa.1 hk).1;generalize w.alloc (.cells (gQ A1 c1 A2 c2 A3 c3 A4 c4 g) 27)=w1 at s1 hc0 hgr |-;generalize w.heap.size=q at s1 hgr |-;refine Zcy.l6_intro _ _ _ _ _ _ (λ y w'=>∃i:Nat,y = .int .i64 i/\i<=row.length/\(row.take i).all (okS g.terms.length ms)=true/\Chg noB w1 w') (λ y _=>row.length-iv y) ⟨0,rfl,by omega,by simp,Chg.refl _ _⟩ ?_;rintro _ w2 ⟨i,rfl,hi,hall,hc2⟩ C hC;have hg2:=hgr w2 hc2;have y2:=hg2.k;simp -dsimp[go_sem];refine Za (λ p1=>?_) (λ p1=>?_)<;>simp at p1
 ·have wi:IntKind.i64.wrap ((i:Int)+1)=(i:Int)+1:=Zcv p1 (by omega);obtain ⟨b,o,rfl,hb,ck,hin⟩:=Go.Px.ints_at (Rep.below hrow ((hc0.trans hc2).below hB λ _ _=>id)) p1;have et:row.take (i+1)=row.take i++[row[i]]:=Qd p1;have hx:=hms row[i] (Qj p1);have hd:Chg noB w2 w2.drew:=(Chg.refl _ _).drew;simp -dsimp[go_sem,p1,ck,y2];refine Za (λ p2=>?_) (λ p2=>?_)<;>simp at p2
  ·obtain ⟨j,hj⟩:∃j:Nat,row[i]-(g.terms.length:Int)=j:=⟨(row[i]-(g.terms.length:Int)).toNat,by omega⟩;have hjl:j<ms.length:=by omega
   have wj:IntKind.i64.wrap (row[i]-(g.terms.length:Int))=(j:Int):=by rw[hj];exact IntWalk.i64_in _ (by unfold maxLen at hmm;omega)
   have s2:=(s1.old hc2);obtain ⟨gm,em,cm,fm⟩:=s2.rowAt k (by rw[Qf hkl];exact hk) (j:=j) (by rw[Zex];exact hjl);injection em with em;injection em with em;subst em;have cmv:(Zaz ms)[j]'(by rw[Zex];exact hjl) = .bool ms[j]:=by simp[Zaz]
   rw[cmv]at cm;have hok:okS g.terms.length ms row[i]=ms[j]:=by
    unfold okS;rw[decide_eq_false (by omega),hj,Bool.false_or,Qax,Qc,Qb hjl];rfl
   simp -dsimp[go_sem,p1,ck,y2,wj,hjl,cm];unfold Zcy.b12
   cases hb:ms[j]with
   | true=>
    simp -dsimp[go_sem,wi];exact hC _ _ ⟨i+1,by simp,by omega,by rw[et,Qbn,hall];simp[hok,hb],hc2.trans hd⟩ (by simp[iv];omega)
   | false=>
    simp -dsimp[go_sem,wi];refine hR _ _ ⟨?_,(hc0.trans hc2).trans hd⟩;congr 1;symm;rw[Qdl];exact ⟨_,Qj p1,by rw[hok,hb];simp⟩
  ·have hok:okS g.terms.length ms row[i]=true:=by unfold okS;rw[decide_eq_true (by omega)];rfl
   unfold Zcy.b12;simp -dsimp[go_sem,wi];exact hC _ _ ⟨i+1,by simp,by omega,by rw[et,Qbn,hall];simp[hok],hc2.trans hd⟩ (by simp[iv];omega)
 ·have:i=row.length:=by omega
  subst this;rw[Qm]at hall;unfold Zcy.b3;exact hR _ _ ⟨by rw[hall],hc0.trans hc2⟩
end Go.Proofs.YtjibcckpehdbhaaGreatDoor
namespace Go.Px
def Deb (w:World):Prop:=∀j,j<64->w.cell? ⟨0,j,none⟩=some (.int .u8 (Lib.deBruijn64tab.getD j 0))
theorem Deb.chg {F:Nat->Prop}{w w':World}(h:Deb w)(hc:Chg F w w')(hF:¬F 0):Deb w':=λ j hj=>hc.at (h j hj) hF
end Go.Px
namespace Go.Proofs.YtjibcckpehdbhaaGreatDoor
open Go.Px Go.RowKit
attribute [-go_sem] Builtin.append_
theorem ZZ34 {x:Nat}(hx:x<2 ^ 64)(h0:x≠0):∃idx:Nat,idx<64/\Lib.deBruijn64tab.getD idx 0=Lib.ctz 64 x/\Lib.ctz 64 x<64 /\
  IntKind.u64.wrap (bits BinOp.and IntKind.u64 (x:Int) (IntKind.u64.wrap (-(x:Int)))*285870213051353865) / 288230376151711744=(idx:Int):=by
 obtain ⟨hlow,hk⟩:=Lib.lowest_bit 64 x h0 hx;obtain ⟨hi,htab⟩:=Lib.deBruijn64_at _ hk;exact ⟨_,hi,htab,hk,tz64_key x _ hx h0 hlow⟩
theorem tzI (w:World){idx:Nat}(hi:idx<64):(Instr.indexAt 348 (.pointer (some ⟨0,0,none⟩)) (.int .u64 idx)).run Tryz.prog w = .ok (.pointer (some ⟨0,idx,none⟩)) w:=by
 have hi2:(idx:Int)<64:=by omega
 simp -dsimp[go_sem,hi2]
theorem tz1 (w:World){x:Nat}(t:Operand)(u:Operand):(bins .and 263 t u (.int .u64 x) (.int .u64 (IntKind.u64.wrap (-(x:Int))))).run Tryz.prog w = .ok (.int .u64 (bits BinOp.and IntKind.u64 (x:Int) (IntKind.u64.wrap (-(x:Int))))) w:=by
 simp -dsimp[go_sem]
theorem tz2 (w:World)(y:Int)(t:Operand)(u:Operand):(bins .mul 263 t u (.int .u64 y) (.int .u64 285870213051353865)).run Tryz.prog w = .ok (.int .u64 (IntKind.u64.wrap (y*285870213051353865))) w:=by
 simp -dsimp[go_sem]
theorem tz3 (w:World)(y:Int)(t:Operand)(u:Operand):(bins .shr 263 t u (.int .u64 y) (.int .u64 58)).run Tryz.prog w = .ok (.int .u64 (y / 288230376151711744)) w:=by
 simp -dsimp[go_sem]
theorem tz4 (w:World){c:Nat}(hc:c<64):(convert 5 3 (.int .u8 c)).run Tryz.prog w = .ok (.int .i64 c) w:=by
 have wc:IntKind.i64.wrap (c:Int)=(c:Int):=IntWalk.i64_in _ (by omega);simp -dsimp[go_sem,wc]
theorem tz5 (w:World){x:Nat}:(Op.unary .neg (.int .u64 x)).run Tryz.prog w = .ok (.int .u64 (IntKind.u64.wrap (-(x:Int)))) w:=by
 simp -dsimp[go_sem]
theorem tz6 (w:World){x:Nat}(h0:x≠0)(t u:Operand):(bins .eql 263 t u (.int .u64 x) (.int .u64 0)).run Tryz.prog w = .ok (.bool false) w:=by
 have e0:((x:Int) == 0)=false:=by simp;omega
 simp -dsimp[go_sem,e0]
theorem tz7 (w:World){idx c:Nat}(h:w.cell? ⟨0,idx,none⟩=some (.int .u8 c)):(Instr.loadAt 5 (.pointer (some ⟨0,idx,none⟩))).run Tryz.prog w = .ok (.int .u8 c) w:=by
 simp -dsimp[go_sem,h]
theorem ZZ84 {w:World}{x idx c:Nat}{R:EP}(h0:x≠0)(he:IntKind.u64.wrap (bits BinOp.and IntKind.u64 (x:Int) (IntKind.u64.wrap (-(x:Int)))*285870213051353865) / 288230376151711744=(idx:Int))(hi:idx<64)(hc:c<64)
  (hcell:w.cell? ⟨0,idx,none⟩=some (.int .u8 c)) (hR:R (.returned (.int .i64 c)) w):Zam.run R (.int .u64 x) w:=by
 unfold Zam.run Zam.b1;rw[Ur_eq,tz6 w h0,Zb2,Zmy];unfold Zam.b1_1;rw[Ur_eq,tz5,Zb2,Ur_eq,tz1,Zb2,Ur_eq,tz2,Zb2,Ur_eq,tz3,Zb2,he,Ur_eq,tzI w hi,Zb2,Ur_eq,tz7 w hcell,Zb2,Ur_eq,tz4 w hc,Zb2];exact hR
theorem tz_ct {w:World}{x:Nat}(hx:x<2 ^ 64)(hD:Deb w):Ct Tryz.prog Zam.id #[.int .u64 x] w λ v w'=>v = .int .i64 (Lib.ctz 64 x)/\w=w':=by
 refine Zam.ct λ R hR=>?_;by_cases h0:x=0
 ·subst h0;unfold Zam.run;simp -dsimp[go_sem];exact hR _ _ ⟨rfl,rfl⟩
 ·obtain ⟨idx,hi,htab,hk,key⟩:=ZZ34 hx h0;have hcell:=hD _ hi;rw[htab]at hcell;exact ZZ84 h0 key hi hk hcell (hR _ _ ⟨rfl,rfl⟩)
theorem iU64:(Tryz.prog.info? 263).map (λ i=>(i.zero,i.size,i.bytes))=some (some (.int .u64 0),1,8):=by kernel_rfl
theorem Zv9:Tryz.prog.underlying 195=some (.slice 263):=Tryz.underlying195
theorem ZZ46 (w:World)(n:Nat)(h:n<=1000):(Instr.makeSlice 195 (.int .i64 n) (.int .i64 n)).run Tryz.prog w = .ok (.slice (some ⟨w.heap.size,0,none⟩) n n) (w.alloc (.cells (u64s (List.replicate n 0)).toArray 263)):=by
 obtain ⟨i0,hi,hz0,hz1,hz2⟩:=info_parts iU64;have:=run_make (P:=Tryz.prog) w 195 263 i0 _ Zv9 hi hz0 .i64 .i64 n n (by omega) (by omega) (by rw[hz2];omega) (by omega);rw[this];have e:madeCells (Value.int .u64 0).cells ((n:Int).toNat*i0.size)=(u64s (List.replicate n 0)).toArray:=by
  rw[hz1,Qb7,Qax];have:=toList_madeCells_one (Value.int .u64 0) n;apply Qcx.1;rw[u64s,Qcq];exact this
 rw[e];simp
end Go.Proofs.YtjibcckpehdbhaaGreatDoor
