/-
  Texts of this claim: Tc3, Lz1, LzS, Lz2, LzE, Lz3, Lo1, Lo2, Lo3, Lo4, Lo5, Tc4.
-/
import Derived.Test.YtjibcckpehdbhaaGreatDoorY12
import Derived.Test.YtjibcckpehdbhaaGreatDoorY06
import Derived.Test.YtjibcckpehdbhaaGreatDoorY08
import Derived.Test.YtjibcckpehdbhaaGreatDoorY11
import Derived.Test.YtjibcckpehdbhaaGreatDoorY03
import Derived.Shelf.SlSortCmp.WholeK
import Derived.Test.YtjibcckpehdbhaaGreatDoorY05
import Derived.Laws.StructEq
import Derived.Test.YtjibcckpehdbhaaGreatDoorY04
set_option maxHeartbeats 1000000
set_option linter.unusedSimpArgs false
set_option linter.unusedVariables false
set_option maxRecDepth 100000
namespace Go.Px.Cn
open Go.Px
def byP (P:Prs)(s:Int):List Nat:=(List.range P.length).filter λ p=>lft P p=s
def byL (P:Prs)(s:Int):List It:=(byP P s).map λ p=>(p,0)
theorem Zou {P:Prs}{s:Int}{x:It}:x∈byL P s↔x.1<P.length/\lft P x.1=s/\x.2=0:=by
 unfold byL byP;rw[Qr];constructor
 ·rintro ⟨p,hp,rfl⟩;rw[Qz]at hp;exact ⟨by simpa using hp.1,by simpa using hp.2,rfl⟩
 ·rintro ⟨h1,h2,h3⟩;exact ⟨x.1,Qz.2 ⟨by simpa using h1,by simpa using h2⟩,by rw[<-h3]⟩
theorem Zrd:∀{n:Nat} {l:List Nat},l.Nodup->(∀x∈l,x<n)->l.length<=n:=λ {n l} h1 h2=>by
 have:=Go.Px.Scan.nodup_le (m:=List.range n) h1 λ x hx=>by simpa using h2 x hx
 simpa using this
theorem Zkg (P:Prs):∀{S:List Int},S.Nodup->(S.flatMap (byP P)).Nodup
 | [],_=>by simp
 | s::S,h=>by
  rw[Qcg]at h
  rw[Qan,Qak]
  refine ⟨Qct _ Qc7,Zkg P h.2,λ a ha b hb=>?_⟩
  rintro rfl
  obtain ⟨s',hs',hb⟩:=Qbh.1 hb
  unfold byP at ha hb
  rw[Qz]at ha hb
  have e1:lft P a=s:=by simpa using ha.2
  have e2:lft P a=s':=by simpa using hb.2
  exact h.1 (by rw[<-e1,e2];exact hs')
theorem ZZ79 {P:Prs}{S:List Int}(h:S.Nodup):(S.flatMap (byL P)).length<=P.length:=by
 have e:(S.flatMap (byL P)).length=(S.flatMap (byP P)).length:=by
  rw[List.length_flatMap,List.length_flatMap];congr 1;refine Qdg λ s _=>?_;unfold byL;simp
 rw[e];refine Zrd (Zkg P h) λ x hx=>?_;obtain ⟨s,_,hx⟩:=Qbh.1 hx;unfold byP at hx;rw[Qz]at hx;simpa using hx.1
def Val (P:Prs)(l:List It):Prop:=∀x∈l,x.1<P.length/\x.2<=(rgt P x.1).length
structure CloI (P:Prs)(items l:List It)(S:List Int)(i:Nat):Prop where
 eq:l=items++S.flatMap (byL P)
 nd:S.Nodup
 sound:∀x∈l,Cl0 P (·∈items) x
 done:∀j x s,j<i->l[j]?=some x->aft P x=some s->s∈S
theorem CloI.start (P:Prs)(items:List It):CloI P items items [] 0:=⟨by simp,by simp,λ x hx=> .base hx,λ j x s h=>by omega⟩
theorem CloI.len {P:Prs}{items l:List It}{S:List Int}{i:Nat}(h:CloI P items l S i):l.length<=items.length+P.length:=by
 rw[h.eq,Qq];have:=ZZ79 (P:=P) h.nd;omega
theorem CloI.skip {P:Prs}{items l:List It}{S:List Int}{i:Nat}(h:CloI P items l S i){x:It}(hx:l[i]?=some x)(hs:∀s,aft P x=some s->s∈S):CloI P items l S (i+1):=by
 refine ⟨h.eq,h.nd,h.sound,λ j y s hj hy ha=>?_⟩;rcases Qay j i with h1|h1
 ·exact h.done j y s h1 hy ha
 ·have:j=i:=by omega
  subst this;rw[hx]at hy;injection hy with hy;subst hy;exact hs s ha
theorem CloI.add {P:Prs}{items l:List It}{S:List Int}{i:Nat}(h:CloI P items l S i){x:It}{s:Int}(hx:l[i]?=some x)(ha:aft P x=some s)(hs:s∉S):CloI P items (l++byL P s) (S++[s]) (i+1):=by
 refine ⟨by rw[h.eq];simp,?_,λ y hy=>?_,λ j y s' hj hy ha'=>?_⟩
 ·rw[Qak];refine ⟨h.nd,by simp,λ a hm b hb=>?_⟩;rw[Qg]at hb;subst hb;rintro rfl;exact hs hm
 ·rcases Qk.1 hy with hy|hy
  ·exact h.sound y hy
  ·obtain ⟨h1,h2,h3⟩:=Zou.1 hy;have:=Cl0.step (h.sound x (Qe hx)) ha h1 h2;rw[<-h3]at this;exact this
 ·have hil:=(Qa.1 hx).1;rw[Qf (by omega)]at hy;rcases Qay j i with h1|h1
  ·exact Q0 _ (h.done j y s' h1 hy ha')
  ·have:j=i:=by omega
   subst this;rw[hx]at hy;injection hy with hy;subst hy;rw[ha]at ha';injection ha' with ha';subst ha';simp
theorem CloI.fin {P:Prs}{items l:List It}{S:List Int}(h:CloI P items l S l.length)(x:It):x∈l↔Cl0 P (·∈items) x:=by
 refine ⟨h.sound x,λ hx=>?_⟩
 induction hx with
 | base h1=>rw[h.eq];exact Q0 _ h1
 | @step x s q _ h2 h3 h4 ih=>
  obtain ⟨j,hj,rfl⟩:=Q3 ih;have:=h.done j _ s hj (Qb hj) h2;rw[h.eq];exact Qa2 _ (Qbh.2 ⟨s,this,Zou.2 ⟨h3,h4,rfl⟩⟩)
theorem Cl0.val {P:Prs}{items:List It}(h:Val P items){x:It}(hx:Cl0 P (·∈items) x):x.1<P.length/\x.2<=(rgt P x.1).length:=by
 induction hx with
 | base h1=>exact h _ h1
 | step _ _ h3 _ _=>exact ⟨h3,Qy _⟩
theorem Cl0.dotle {P:Prs}{items:List It}{n:Nat}(h:∀x∈items,x.2<=n){x:It}(hx:Cl0 P (·∈items) x):x.2<=n:=by
 induction hx with
 | base h1=>exact h _ h1
 | step _ _ _ _ _=>exact Qy _
def kerL (P:Prs)(r:List It)(s:Int):List It:=(r.filter λ x=>aft P x=some s).map λ x=>(x.1,x.2+1)
theorem Zjp {P:Prs}{r:List It}{s:Int}{x:It}:x∈kerL P r s↔∃y∈r,aft P y=some s/\x=(y.1,y.2+1):=by
 unfold kerL;rw[Qr];constructor
 ·rintro ⟨y,hy,rfl⟩;rw[Qz]at hy;exact ⟨y,hy.1,by simpa using hy.2,rfl⟩
 ·rintro ⟨y,h1,h2,rfl⟩;exact ⟨y,Qz.2 ⟨h1,by simpa using h2⟩,rfl⟩
theorem Zy1 {P:Prs}{r:List It}(h:r.Pairwise itLt)(s:Int):(kerL P r s).Pairwise itLt:=by
 unfold kerL;rw[Qbk];refine (h.filter _).imp λ {a b} hab=>?_;unfold itLt at *;simp only;omega
theorem Zij {P:Prs}{items r:List It}(h:∀x,x∈r↔Cl0 P (·∈items) x)(s:Int)(x:It):x∈kerL P r s↔Go0 P (·∈items) s x:=by
 rw[Zjp];exact ⟨λ ⟨y,h1,h2,h3⟩=>⟨y,(h y).1 h1,h2,h3⟩,λ ⟨y,h1,h2,h3⟩=>⟨y,(h y).2 h1,h2,h3⟩⟩
theorem Zxg {P:Prs}{r:List It}(h:Val P r)(s:Int):Val P (kerL P r s):=by
 intro x hx;obtain ⟨y,h1,h2,rfl⟩:=Zjp.1 hx;refine ⟨(h y h1).1,?_⟩;unfold aft at h2;exact (Qa.1 h2).1
theorem Zxy {P:Prs}{r:List It}{n:Nat}(h:∀x∈r,x.2<=n)(s:Int):∀x∈kerL P r s,x.2<=n+1:=by
 intro x hx;obtain ⟨y,h1,h2,rfl⟩:=Zjp.1 hx;have:=h y h1
 show y.2+1<=n+1
 omega
def keyB (l:List It):List UInt8:=l.flatMap λ x=>[UInt8.ofNat x.1,UInt8.ofNat x.2,UInt8.ofNat (x.2 / 256)]
theorem Zv4 {a b:Nat}(h:UInt8.ofNat a=UInt8.ofNat b):a % 256=b % 256:=by
 have:=congrArg UInt8.toNat h;simpa using this
theorem Zjr:∀{a b:List It},(∀x∈a,x.1<256/\x.2<65536)->(∀x∈b,x.1<256/\x.2<65536)->keyB a=keyB b->a=b
 | [],[],_,_,_=>rfl
 | [],y::b,_,_,h=>by simp[keyB]at h
 | x::a,[],_,_,h=>by simp[keyB]at h
 | x::a,y::b,ha,hb,h=>by
  unfold keyB at h
  simp only[Qan,List.cons_append,Qcz]at h
  injection h with h1 h
  injection h with h2 h
  injection h with h3 h
  have:=Zjr (λ z hz=>ha z (by simp[hz])) (λ z hz=>hb z (by simp[hz])) h
  have hx:=ha x (by simp)
  have hy:=hb y (by simp)
  have e1:=Zv4 h1
  have e2:=Zv4 h2
  have e3:=Zv4 h3
  rw[this]
  congr 1
  exact Prod.ext (by omega) (by omega)
structure BldI (P:Prs)(ks:List (List It))(n:Nat):Prop where
 start:ks[0]?=some [(0,0)]
 r0:∀l∈ks,R0 P (·∈l)
 val:∀l∈ks,Val P l
 dot:∀(j:Nat) l,ks[j]?=some l->∀x∈l,x.2<=j
 go:∀(j:Nat) l,j<n->ks[j]?=some l->∀s,(∃x,Go0 P (·∈l) s x)->∃l'∈ks,∀x,x∈l'↔Go0 P (·∈l) s x
 srt:∀l∈ks,l.Pairwise itLt
 nd:ks.Nodup
theorem BldI.fin {P:Prs}{ks:List (List It)}(h:BldI P ks ks.length):Lr0 P ks where
 start:=Qe h.start
 r0:=h.r0
 go l hl s hs:=by
  obtain ⟨j,hj,rfl⟩:=Q3 hl;exact h.go j _ hj (Qb hj) s hs
 srt:=h.srt
 nd:=h.nd
theorem BldI.first {P:Prs}(hP:0<P.length):BldI P [[(0,0)]] 0 where
 start:=rfl
 r0 l hl:=by
  rw[Qg]at hl;subst hl;have e:(·∈[((0,0):It)])=λ x:It=>x=(0,0):=by funext x;simp
  rw[e];exact .start
 val l hl:=by
  rw[Qg]at hl;subst hl;intro x hx;rw[Qg]at hx;subst hx;exact ⟨hP,Qy _⟩
 dot j l hj:=by
  intro x hx
  match j,hj with
  | 0,hj=>
   injection hj with hj;subst hj;rw[Qg]at hx;subst hx;exact Ql 0
  | j+1,hj=>simp at hj
 go j l hj:=by omega
 srt l hl:=by rw[Qg]at hl;subst hl;simp
 nd:=by simp
theorem R0.of_go {P:Prs}{ks:List (List It)}{l k:List It}{s:Int}(h:R0 P (·∈l))(hk:∀x,x∈k↔Go0 P (·∈l) s x)(hne:k≠[]):R0 P (·∈k):=by
 have e:(·∈k)=Go0 P (·∈l) s:=by funext x;exact propext (hk x)
 rw[e];refine .step h ?_;obtain ⟨x,hx⟩:=Qbv k hne;exact ⟨x,(hk x).1 hx⟩
theorem BldI.snoc {P:Prs}{ks:List (List It)}{i:Nat}(h:BldI P ks i){l k:List It}{s:Int}(hl:ks[i]?=some l)(hk:∀x,x∈k↔Go0 P (·∈l) s x)(hne:k≠[])(hv:Val P k)(hd:∀x∈k,x.2<=i+1)(hs:k.Pairwise itLt)(hn:k∉ks):BldI P (ks++[k]) i:=by
 have hil:=(Qa.1 hl).1;refine ⟨?_,λ m hm=>?_,λ m hm=>?_,λ j m hj=>?_,λ j m hj hm s' hx=>?_,λ m hm=>?_,?_⟩
 ·rw[Qf (by omega)];exact h.start
 ·rcases Qk.1 hm with hm|hm
  ·exact h.r0 m hm
  ·rw[Qg]at hm;subst hm;exact R0.of_go (ks:=ks) (h.r0 l (Qe hl)) hk hne
 ·rcases Qk.1 hm with hm|hm
  ·exact h.val m hm
  ·rw[Qg]at hm;subst hm;exact hv
 ·rcases Qay j ks.length with h1|h1
  ·rw[Qf h1]at hj;exact h.dot j m hj
  ·have hjl:=(Qa.1 hj).1;simp at hjl;have:j=ks.length:=by omega
   subst this;rw[Qi (Ql _),Qam]at hj;injection hj with hj;subst hj;intro x hx;have:=hd x hx;omega
 ·rw[Qf (by omega)]at hm;obtain ⟨l',h1,h2⟩:=h.go j m hj hm s' hx;exact ⟨l',Q0 _ h1,h2⟩
 ·rcases Qk.1 hm with hm|hm
  ·exact h.srt m hm
  ·rw[Qg]at hm;subst hm;exact hs
 ·rw[Qak];refine ⟨h.nd,by simp,λ a ha b hb=>?_⟩;rw[Qg]at hb;subst hb;rintro rfl;exact hn ha
theorem BldI.next {P:Prs}{ks:List (List It)}{i:Nat}(h:BldI P ks i){l:List It}(hl:ks[i]?=some l)(hg:∀s,(∃x,Go0 P (·∈l) s x)->∃l'∈ks,∀x,x∈l'↔Go0 P (·∈l) s x):BldI P ks (i+1):=by
 refine ⟨h.start,h.r0,h.val,h.dot,λ j m hj hm s hx=>?_,h.srt,h.nd⟩;rcases Qay j i with h1|h1
 ·exact h.go j m h1 hm s hx
 ·have:j=i:=by omega
  subst this;rw[hl]at hm;injection hm with hm;subst hm;exact hg s hx
def itV (x:It):List Value:=[.int .i64 x.1,.int .i64 x.2]
def cmpI (x y:Int):Int:=if x<y then -1 else if y<x then 1 else 0
def Zr2 (x y:It):Int:=if cmpI x.1 y.1≠0 then cmpI x.1 y.1 else cmpI x.2 y.2
end Go.Px.Cn
namespace Go.Proofs.YtjibcckpehdbhaaGreatDoor
open Go.Px Go.Px.Scan Go.Px.Cn Go.RowKit
attribute [-go_sem] Builtin.append_ Zcb.b1_1 Zde.b4 Zde.b3 Zdc.b1_1
theorem Zqi (x:Int)(w:World):Ct Tryz.prog cmp_isNaN_int.id #[.int .i64 x] w λ v w'=>v = .bool false/\w=w':=by
 refine cmp_isNaN_int.ct λ R hR=>?_;unfold cmp_isNaN_int.run;simp -dsimp[go_sem];exact hR _ _ ⟨rfl,rfl⟩
theorem Zlm (x y:Int)(w:World):Ct Tryz.prog Zcb.id #[.int .i64 x,.int .i64 y] w λ v w'=>v = .int .i64 (cmpI x y)/\w=w':=by
 refine Zcb.ct λ R hR=>?_;unfold Zcb.run;simp -dsimp[go_sem];refine Zi (Zqi x w) ?_;rintro _ _ ⟨rfl,rfl⟩;refine Zi (Zqi y w) ?_;rintro _ _ ⟨rfl,rfl⟩;simp -dsimp[go_sem];unfold Zcb.b1_1;simp -dsimp[go_sem];refine Za (λ p1=>?_) (λ p1=>?_)<;>simp at p1
 ·refine hR _ _ ⟨?_,rfl⟩;unfold cmpI;rw[if_pos p1]
 ·simp -dsimp[go_sem];refine Za (λ p2=>?_) (λ p2=>?_)<;>simp at p2
  ·refine hR _ _ ⟨?_,rfl⟩;unfold cmpI;rw[if_neg (by omega),if_pos p2]
  ·refine hR _ _ ⟨?_,rfl⟩;unfold cmpI;rw[if_neg (by omega),if_neg (by omega)]
theorem Or_ct {w:World}{g:Nat}{a b:Int}(ha:w.cell? ⟨g,0,none⟩=some (.int .i64 a))(hb:w.cell? ⟨g,1,none⟩=some (.int .i64 b)):Ct Tryz.prog Zde.id #[.slice (some ⟨g,0,none⟩) 2 2] w λ v w'=>v = .int .i64 (if a≠0 then a else b)/\w=w':=by
 refine Zde.ct λ R hR=>?_;unfold Zde.run;simp -dsimp[go_sem];unfold Zde.b4;simp -dsimp[go_sem];refine Zde.l6_intro _ _ _ _ _ _ (λ y w'=>∃k:Nat,y = .int .i64 k/\k<=2/\(1<=k->a=0)/\(2<=k->b=0)/\w=w') (λ y _=>2-iv y) ⟨0,rfl,by omega,by omega,by omega,rfl⟩ ?_;rintro _ _ ⟨k,rfl,hk,h1,h2,rfl⟩ C hC;simp -dsimp[go_sem];refine Za (λ p1=>?_) (λ p1=>?_)<;>simp at p1
 ·have hk2:k<2:=by omega
  have wk:=wS k (by omega);obtain ⟨c,hc,hcv⟩:∃c,w.cell? ⟨g,k,none⟩=some (.int .i64 c)/\((k=0/\c=a)\/(k=1/\c=b)):=by
   match k,hk2 with
   | 0,_=>exact ⟨a,ha,Or.inl ⟨rfl,rfl⟩⟩
   | 1,_=>exact ⟨b,hb,Or.inr ⟨rfl,rfl⟩⟩
  have hki:(k:Int)<2:=by omega
  simp -dsimp[go_sem,hk2,hki,hc];refine Za (λ p2=>?_) (λ p2=>?_)<;>simp at p2
  ·refine hR _ _ ⟨?_,rfl⟩;rcases hcv with ⟨rfl,rfl⟩|⟨rfl,rfl⟩
   ·rw[if_pos p2]
   ·rw[if_neg (by simpa using h1 (by omega))]
  ·simp -dsimp[go_sem,wk];refine hC _ _ ⟨k+1,by simp,by omega,λ _=>?_,λ h=>?_,rfl⟩ (by simp[iv];omega)
   ·rcases hcv with ⟨rfl,rfl⟩|⟨rfl,rfl⟩
    ·exact p2
    ·exact h1 (by omega)
   ·rcases hcv with ⟨rfl,rfl⟩|⟨rfl,rfl⟩
    ·omega
    ·exact p2
 ·have:k=2:=by omega
  subst this;unfold Zde.b3;refine hR _ _ ⟨?_,rfl⟩;rw[if_neg (by simpa using h1 (by omega)),h2 (by omega)]
open Go.Shelf Go.Lib Go.Sort in
theorem ZZ125 (x y:It)(W:World):Ct Tryz.prog Zdc.id #[.agg #[.int .i64 x.1,.int .i64 x.2],.agg #[.int .i64 y.1,.int .i64 y.2]] W λ v w'=>v = .int .i64 (Zr2 x y)/\∃q os',w'=grow (W.drewN q) os':=by
 refine Zdc.ct λ R hR=>?_;unfold Zdc.run;have s2:=((St.refl noB W).alloc #[.int .i64 x.1,.int .i64 x.2] 89).alloc #[.int .i64 y.1,.int .i64 y.2] 89;have a2:=(s2.box 0 rfl).1.2.1;have b2:=(s2.box 1 rfl).1.2.1;simp -dsimp[go_sem];have e1:(W.alloc (.cells #[.int .i64 x.1,.int .i64 x.2] 89)).heap.size=W.heap.size+1:=by simp
 rw[e1]at b2;have hg:∃q os',((W.alloc (.cells #[.int .i64 x.1,.int .i64 x.2] 89)).alloc (.cells #[.int .i64 y.1,.int .i64 y.2] 89)).drew=grow (W.drewN q) os':=⟨1,_,by rw[alloc_eq_grow,alloc_eq_grow,grow_grow];rfl⟩;have a3:(((W.alloc (.cells #[.int .i64 x.1,.int .i64 x.2] 89)).alloc (.cells #[.int .i64 y.1,.int .i64 y.2] 89)).drew).cell? ⟨W.heap.size,1,none⟩=some (.int .i64 x.2):=a2;have b3:(((W.alloc (.cells #[.int .i64 x.1,.int .i64 x.2] 89)).alloc (.cells #[.int .i64 y.1,.int .i64 y.2] 89)).drew).cell? ⟨W.heap.size+1,1,none⟩=some (.int .i64 y.2):=b2;clear a2 b2 s2;generalize ((W.alloc (.cells #[.int .i64 x.1,.int .i64 x.2] 89)).alloc (.cells #[.int .i64 y.1,.int .i64 y.2] 89)).drew=W2 at hg a3 b3 |-;refine Zi (Zlm _ _ W2) ?_;rintro _ _ ⟨rfl,rfl⟩;simp -dsimp[go_sem,a3,b3];refine Zi (Zlm _ _ W2) ?_;rintro _ _ ⟨rfl,rfl⟩;unfold Zdc.b1_1;simp -dsimp[go_sem];have s3:=(St.refl noB W2).alloc #[.int .i64 (cmpI x.1 y.1),.int .i64 (cmpI x.2 y.2)] 3;have c3:=(s3.box 0 rfl).1;refine Zi (Or_ct c3.1 c3.2.1) ?_;rintro _ _ ⟨rfl,rfl⟩;refine hR _ _ ⟨rfl,?_⟩;obtain ⟨q,os',rfl⟩:=hg;exact ⟨q,_,by rw[alloc_eq_grow,grow_grow]⟩
open Go.Proofs Go.Shelf
def Zsf:Go.Shelf.Ren:=⟨fun | 6=>93 | 15=>92 | 14=>166 | 28=>164 | 29=>165 | 20=>227 | 21=>228 | 22=>229 | 23=>230 | 24=>231 | 25=>232 | 26=>233 | 27=>234 | 46=>275 | 47=>223 | 48=>224 | 49=>276 | 50=>277 | 57=>299 | n=>n,fun | 22=>90 | 24=>89 | 25=>214 | 3=>3 | 39=>211 | 0=>0 | 53=>285 | 55=>263 | 4=>4 | 46=>277 | 45=>276 | 50=>282 | 5=>5 | 9=>9 | 66=>353 | 70=>357 | 76=>406 | 77=>395 | n=>n,fun | n=>n⟩
theorem ZZ13:Go.Proofs.SlLaysF0.n6 Tryz.prog Zsf where
 mixed:=by kernel_rfl
 f6:=⟨ "slices.SortFunc[[]presage/api.Item,presage/api.Item]",by decide,Tryz.func93.trans (congrArg some (by kernel_rfl))⟩
 f14:=⟨ "slices.pdqsortCmpFunc[presage/api.Item]",by decide,Tryz.func166.trans (congrArg some (by kernel_rfl))⟩
 f15:=Tryz.func92.trans (congrArg some (by kernel_rfl))
 f20:=⟨ "slices.insertionSortCmpFunc[presage/api.Item]",by decide,Tryz.func227.trans (congrArg some (by kernel_rfl))⟩
 f21:=⟨ "slices.heapSortCmpFunc[presage/api.Item]",by decide,Tryz.func228.trans (congrArg some (by kernel_rfl))⟩
 f22:=⟨ "slices.breakPatternsCmpFunc[presage/api.Item]",by decide,Tryz.func229.trans (congrArg some (by kernel_rfl))⟩
 f23:=⟨ "slices.choosePivotCmpFunc[presage/api.Item]",by decide,Tryz.func230.trans (congrArg some (by kernel_rfl))⟩
 f24:=⟨ "slices.reverseRangeCmpFunc[presage/api.Item]",by decide,Tryz.func231.trans (congrArg some (by kernel_rfl))⟩
 f25:=⟨ "slices.partialInsertionSortCmpFunc[presage/api.Item]",by decide,Tryz.func232.trans (congrArg some (by kernel_rfl))⟩
 f26:=⟨ "slices.partitionEqualCmpFunc[presage/api.Item]",by decide,Tryz.func233.trans (congrArg some (by kernel_rfl))⟩
 f27:=⟨ "slices.partitionCmpFunc[presage/api.Item]",by decide,Tryz.func234.trans (congrArg some (by kernel_rfl))⟩
 f28:=Tryz.func164.trans (congrArg some (by kernel_rfl))
 f29:=Tryz.func165.trans (congrArg some (by kernel_rfl))
 f46:=⟨ "slices.siftDownCmpFunc[presage/api.Item]",by decide,Tryz.func275.trans (congrArg some (by kernel_rfl))⟩
 f47:=Tryz.func223.trans (congrArg some (by kernel_rfl))
 f48:=Tryz.func224.trans (congrArg some (by kernel_rfl))
 f49:=⟨ "slices.medianAdjacentCmpFunc[presage/api.Item]",by decide,Tryz.func276.trans (congrArg some (by kernel_rfl))⟩
 f50:=⟨ "slices.medianCmpFunc[presage/api.Item]",by decide,Tryz.func277.trans (congrArg some (by kernel_rfl))⟩
 f57:=⟨ "slices.order2CmpFunc[presage/api.Item]",by decide,Tryz.func299.trans (congrArg some (by kernel_rfl))⟩
 t0:=Tryz.underlying0
 a0:=Tryz.isAgg0
 z0:=Tryz.sizeOf0
 v0:=Tryz.zeroValue0
 t3:=Tryz.underlying3
 a3:=Tryz.isAgg3
 z3:=Tryz.sizeOf3
 v3:=Tryz.zeroValue3
 t4:=Tryz.underlying4
 a4:=Tryz.isAgg4
 z4:=Tryz.sizeOf4
 v4:=Tryz.zeroValue4
 t5:=Tryz.underlying5
 a5:=Tryz.isAgg5
 z5:=Tryz.sizeOf5
 v5:=Tryz.zeroValue5
 t9:=Tryz.underlying9
 a9:=Tryz.isAgg9
 z9:=Tryz.sizeOf9
 v9:=Tryz.zeroValue9
 t22:=Tryz.underlying90
 a22:=Tryz.isAgg90
 z22:=Tryz.sizeOf90
 v22:=Tryz.zeroValue90
 t25:=Tryz.underlying214
 a25:=Tryz.isAgg214
 z25:=Tryz.sizeOf214
 v25:=Tryz.zeroValue214
 t39:=Tryz.underlying211
 a39:=Tryz.isAgg211
 z39:=Tryz.sizeOf211
 v39:=Tryz.zeroValue211
 t45:=Tryz.underlying276
 a45:=Tryz.isAgg276
 z45:=Tryz.sizeOf276
 v45:=Tryz.zeroValue276
 t46:=Tryz.underlying277
 a46:=Tryz.isAgg277
 z46:=Tryz.sizeOf277
 v46:=Tryz.zeroValue277
 t50:=Tryz.underlying282
 a50:=Tryz.isAgg282
 z50:=Tryz.sizeOf282
 v50:=Tryz.zeroValue282
 t53:=Tryz.underlying285
 a53:=Tryz.isAgg285
 z53:=Tryz.sizeOf285
 v53:=Tryz.zeroValue285
 t55:=Tryz.underlying263
 a55:=Tryz.isAgg263
 z55:=Tryz.sizeOf263
 v55:=Tryz.zeroValue263
 t66:=Tryz.underlying353
 a66:=Tryz.isAgg353
 z66:=Tryz.sizeOf353
 v66:=Tryz.zeroValue353
 t70:=Tryz.underlying357
 a70:=Tryz.isAgg357
 z70:=Tryz.sizeOf357
 v70:=Tryz.zeroValue357
 t76:=Tryz.underlying406
 a76:=Tryz.isAgg406
 z76:=Tryz.sizeOf406
 v76:=Tryz.zeroValue406
 t77:=Tryz.underlying395
 a77:=Tryz.isAgg395
 z77:=Tryz.sizeOf395
 v77:=Tryz.zeroValue395
open Go.Lib Go.Sort
instance (x y:It):Decidable (itLt x y):=by unfold itLt;exact inferInstance
theorem Zq6 (x y:It):ltOf Zr2 x y=decide (itLt x y):=by
 unfold ltOf Zr2 cmpI itLt;by_cases h1:(x.1:Int)<y.1
 ·have h1':x.1<y.1:=by omega
  simp[h1,h1']
 ·by_cases h2:(y.1:Int)<x.1
  ·have h3:¬x.1<y.1:=by omega
   have h4:¬x.1=y.1:=by omega
   simp[h1,h2,h3,h4]
  ·have h3:x.1=y.1:=by omega
   simp only[h1,h2,if_false,ne_eq,not_true,h3,Qbo,true_and,false_or];by_cases h5:(x.2:Int)<y.2
   ·have h5':x.2<y.2:=by omega
    simp[h5,h5']
   ·have h5':¬x.2<y.2:=by omega
    by_cases h6:(y.2:Int)<x.2<;>simp[h5,h5',h6]
theorem ZZ128:SWO (ltOf Zr2) where
 irrefl x:=by rw[Zq6];simpa using Zie x
 trans x y z h1 h2:=by rw[Zq6]at *;simp at *;exact Zlw _ _ _ h1 h2
 ntrans x y z h1 h2:=by
  rw[Zq6]at *;simp only[decide_eq_false_iff_not]at *;unfold itLt at *;omega
theorem Zvm (l:List It)(j:Nat)(hj:j<l.length*2):(flatK itV 2 l.toArray)[j]?=(l.flatMap itV)[j]?:=by
 have hi:j / 2<l.length:=by omega
 have hc:j % 2<2:=by omega
 have h1:=Zg9 (enc:=itV) (size:=2) (λ _ _=>rfl) (Qb hi) hc;rw[show j / 2*2+j % 2=j by omega]at h1;rw[h1,flatK];simp only[Qb4,Array.getElem?_map];rw[Array.getElem?_range,if_pos hj];simp only[Qbx];have e1:l.toArray[j / 2]! = l[j / 2]:=by simp[hi]
 rw[e1];have:(itV l[j / 2])[j % 2]?=some ((itV l[j / 2])[j % 2]'hc):=Qb hc;rw[this,getElem!_pos (itV l[j / 2]) (j % 2) hc]
theorem Zyl {w:World}{a:Addr}{n c:Nat}{l:List It}{F:Nat->Prop}(h:(qC 2 a n c (l.flatMap itV)).ok w F):HoldsK itV 2 w a.block a.off l.toArray/\l.length=n:=by
 obtain ⟨h1,h2,h3,h4,h5,h6,h7,h8,h9⟩:=h;have hl:l.length=n:=by rw[Zdv (size:=2) l λ _ _=>rfl]at h1;omega
 refine ⟨λ j hj=>⟨?_,h9 _⟩,hl⟩;rw[size_flatK]at hj;have hj2:j<l.length*2:=by simpa using hj
 refine h7 j _ ?_;rw[<-Zvm l j hj2];have:j<(flatK itV 2 l.toArray).size:=by rw[size_flatK];exact hj
 rw[Qbt this,getElem!_pos (flatK itV 2 l.toArray) j this];rfl
theorem Zr9 (blk off size:Nat)(w:World):CmpLays Tryz.prog Zdc.id #[] itV 2 Zr2 blk off size w:=λ m os dk _ x y=>
 (ZZ125 x y (sortWorldK itV 2 w blk off m dk os)).2.mono λ e w' he=>by
  cases e with
  | returned v=>obtain ⟨rfl,h⟩:=he;exact ⟨rfl,h⟩
  | _=>exact he.elim
theorem Zsu (w:World)(blk off n:Nat)(d:Array It)(os:Array Obj){i:Nat}(hi:i<w.heap.size)(hne:i≠blk):(sortWorldK itV 2 w blk off n d os).heap[i]?=w.heap[i]?:=by
 unfold sortWorldK putRowK putRow mapBlock grow;simp only;rw[Qca (by simpa using hi),Qc4,if_neg (Ne.symm hne)];rfl
theorem ZZ54 {G:Nat->Prop}{W w:World}{L:List Ch}{k n c:Nat}{a:Addr}{l:List It}(s:St G W w L)(hk:L[k]?=some (qC 2 a n c (l.flatMap itV)))(hn:n<=1000000) :
  Ct Tryz.prog Zc3.id #[.slice (some a) n c,.func (.func Zdc.id) #[] #[]] w λ v w'=>v = .tuple #[]/\∃l':List It,l'.Perm l/\l'.Pairwise (λ x y=>¬itLt y x)/\St G W w' (L.set k (qC 2 a n c (l'.flatMap itV))):=by
 obtain ⟨F,ho,hF,hs⟩:=s.opn hk;obtain ⟨hH,hl⟩:=Zyl ho;obtain ⟨h1,h2,h3,h4,h5,h6,h7,h8,h9⟩:=id ho;obtain ⟨g,o,sp⟩:=a;simp only at h4 h5 h6 h7 h8 h9 hH;subst h4;have hcon:=AnyQ.slices_SortFunc ZZ13 2 Tryz.isAgg89 Tryz.sizeOf89 itV (λ _=>rfl) (λ x v hv=>by simp[itV]at hv;rcases hv with rfl | rfl<;>rfl) Zr2 ZZ128 Zdc.id #[] g o c l.toArray w (enters_of Tryz.func94 (by kernel_rfl) rfl) (Zr9 _ _ _ _) hH h6 (by simp;omega);refine ⟨ZZ13.f6.enters rfl,?_⟩;change Calls Tryz.prog 93 _ _ _ at hcon;rw[Qb4,hl]at hcon;refine hcon.mono λ e w' he=>?_;obtain ⟨rfl,d',m,os,hp,hsr,rfl⟩:=he;have hsz:d'.size=l.toArray.size:=hp.1;have hsz':d'.toList.length=n:=by simp;rw[hsz];simpa using hl
 have hH2:=holdsK_sortWorldK itV 2 w g o m l.toArray d' os h6 hH hsz;have hcell:∀j (hj:j<n*2),(sortWorldK itV 2 w g o m d' os).cell? ⟨g,o+j,none⟩=some ((d'.toList.flatMap itV)[j]'(by rw[Zdv (size:=2) _ λ _ _=>rfl,hsz'];exact hj)):=λ j hj=>by
  have:=(hH2 j (by rw[size_flatK,hsz,Qb4,hl];exact hj)).1;rw[this];have e:=Zvm d'.toList j (by rw[hsz'];exact hj);have hj2:j<(flatK itV 2 d'.toList.toArray).size:=by rw[size_flatK,Qb4,hsz'];exact hj
  rw[Qbt hj2,Qb (by rw[Zdv (size:=2) _ λ _ _=>rfl,hsz'];exact hj)]at e;injection e with e;rw[<-e];simp only[Array.toArray_toList]at hj2 |-;rw[getElem!_pos (flatK itV 2 d') j hj2];rfl
 have hfl:(d'.toList.flatMap itV).length=n*2:=by rw[Zdv (size:=2) _ λ _ _=>rfl,hsz']
 have hlt:=lt_sortWorldK itV 2 w g o m d' os h6;refine ⟨rfl,d'.toList,?_,?_,hs _ _ ⟨rfl,rfl,rfl,size_sortWorldK_c itV 2 w g o m d' os,λ i hi hF'=>Zsu w g o m d' os hi λ e=>hF' (e ▸ h5)⟩ ⟨hfl,h2,h3,rfl,Or.inl h5,hlt,λ j u hj=>?_,λ j hj=>?_,λ j=>?_⟩⟩
 ·have:=hp.2.2;have e1:d'.extract 0 l.toArray.size=d':=by
   rw[<-hsz];simp
  have e2:l.toArray.extract 0 l.toArray.size=l.toArray:=by simp
  rw[Qb4,hl]at e1 e2;rw[e1,e2]at this;simpa using this
 ·rw[Qt];intro i j hi hj hij;have:=hsr i j (Qy _) hij (by rw[<-hsz'];exact hj);rw[Zq6]at this;have hi':i<d'.size:=by simpa using hi
  have hj':j<d'.size:=by simpa using hj
  rw[getElem!_pos d' i hi',getElem!_pos d' j hj']at this;simpa using this
 ·have hjl:=(Qa.1 hj).1;rw[hfl]at hjl;rw[show (⟨g,o+j,none⟩:Addr)=⟨g,o+j,none⟩ from rfl,hcell j hjl,(Qa.1 hj).2]
 ·by_cases hjn:j<n*2
  ·show ((sortWorldK itV 2 w g o m d' os).cell? ⟨g,o+j,none⟩).isSome=true
   rw[hcell j hjn];rfl
  ·show ((sortWorldK itV 2 w g o m d' os).cell? ⟨g,o+j,none⟩).isSome=true
   unfold sortWorldK putRowK;rw[cell?_grow _ _ _ (by simpa using h6),cell?_putRow_other]
   ·exact h8 j hj
   ·refine Or.inr (Or.inr ?_);rw[size_flatK,hsz,Qb4,hl]
    show o+n*2<=o+j
    omega
 ·unfold sortWorldK putRowK;rw[frozen?_grow _ _ _ (by simpa using h6),frozen?_putRow];exact h9 j
theorem Zve (a b c d:Int)(w:World):(Op.equalIn 10000 89 (.agg #[.int .i64 a,.int .i64 b]) (.agg #[.int .i64 c,.int .i64 d])).run Tryz.prog w = .ok (a == c && b == d) w:=by
 have u3:=Tryz.underlying3;have a3:=Tryz.isAgg3;have z3:=Tryz.sizeOf3;have hS:Tryz.prog.underlying 89=some (.struct (Tryz.prog.fieldsOf 89)):=by kernel_rfl
 have hp:Tryz.prog.stoodInHeld 89=false:=by kernel_rfl
 rw[show (10000:Nat)=9999+1 from rfl,run_equalIn_agg w 9999 89 _ _ hS hp];simp only[Program.fieldsOf,Tryz.underlying89];simp[go_sem];by_cases h1:a=c<;>by_cases h2:b=d<;>simp[h1,h2]
theorem eqIt (a b c d:Int)(t1 t2:Operand)(w:World):(bins .eql 89 t1 t2 (.agg #[.int .i64 a,.int .i64 b]) (.agg #[.int .i64 c,.int .i64 d])).run Tryz.prog w = .ok (.bool (a == c && b == d)) w:=by
 have hg:Tryz.prog.eqGuardType Tryz.prog.depth 89=false:=by kernel_rfl
 unfold bins;rw[Sem.run_bind,run_eqGuard_agg w _ _ _ _ _ _ hg,Result.andThen_ok,run_eql_struct,Zve];rfl
theorem neIt (a b c d:Int)(t1 t2:Operand)(w:World):(bins .neq 89 t1 t2 (.agg #[.int .i64 a,.int .i64 b]) (.agg #[.int .i64 c,.int .i64 d])).run Tryz.prog w = .ok (.bool (!(a == c && b == d))) w:=by
 have hg:Tryz.prog.eqGuardType Tryz.prog.depth 89=false:=by kernel_rfl
 unfold bins;rw[Sem.run_bind,run_eqGuard_agg w _ _ _ _ _ _ hg,Result.andThen_ok,run_neq_struct,Zve];rfl
theorem Zvf (a b t c d u:Int)(w:World):(Op.equalIn 10000 117 (.agg #[.int .i64 a,.int .i64 b,.int .i64 t]) (.agg #[.int .i64 c,.int .i64 d,.int .i64 u])).run Tryz.prog w = .ok (a == c && b == d && t == u) w:=by
 have u3:=Tryz.underlying3;have a3:=Tryz.isAgg3;have z3:=Tryz.sizeOf3;have a66:=Tryz.isAgg89;have z66:=Tryz.sizeOf89;have hS:Tryz.prog.underlying 117=some (.struct (Tryz.prog.fieldsOf 117)):=by kernel_rfl
 have hp:Tryz.prog.stoodInHeld 117=false:=by kernel_rfl
 have hS2:Tryz.prog.underlying 89=some (.struct (Tryz.prog.fieldsOf 89)):=by kernel_rfl
 have hp2:Tryz.prog.stoodInHeld 89=false:=by kernel_rfl
 rw[show (10000:Nat)=9999+1 from rfl,run_equalIn_agg w 9999 117 _ _ hS hp];simp only[Program.fieldsOf,Tryz.underlying117];simp[go_sem];by_cases h1:a=c<;>by_cases h2:b=d<;>by_cases h3:t=u<;>simp[h1,h2,h3]
theorem eqFl (a b t c d u:Int)(t1 t2:Operand)(w:World):(bins .eql 117 t1 t2 (.agg #[.int .i64 a,.int .i64 b,.int .i64 t]) (.agg #[.int .i64 c,.int .i64 d,.int .i64 u])).run Tryz.prog w = .ok (.bool (a == c && b == d && t == u)) w:=by
 have hg:Tryz.prog.eqGuardType Tryz.prog.depth 117=false:=by kernel_rfl
 unfold bins;rw[Sem.run_bind,run_eqGuard_agg w _ _ _ _ _ _ hg,Result.andThen_ok,run_eql_struct,Zvf];rfl
theorem neFl (a b t c d u:Int)(t1 t2:Operand)(w:World):(bins .neq 117 t1 t2 (.agg #[.int .i64 a,.int .i64 b,.int .i64 t]) (.agg #[.int .i64 c,.int .i64 d,.int .i64 u])).run Tryz.prog w = .ok (.bool (!(a == c && b == d && t == u))) w:=by
 have hg:Tryz.prog.eqGuardType Tryz.prog.depth 117=false:=by kernel_rfl
 unfold bins;rw[Sem.run_bind,run_eqGuard_agg w _ _ _ _ _ _ hg,Result.andThen_ok,run_neq_struct,Zvf];rfl
theorem Zfz (t:TypeId){e:TypeId}(ht:Tryz.prog.underlying t=some (.slice e))(A:Option Addr)(n c:Nat)(w:World):(binOp BinOp.eql t (.slice A n c) (.slice none 0 0)).run Tryz.prog w = .ok (.bool A.isNone) w:=by
 simp only[binOp,Op.equal];rw[show Op.maxDepth=9999+1 from rfl];unfold Op.equalIn;cases A<;>simp[run_underlying ht,go_sem]
set_option maxRecDepth 100000 in
attribute [go_sem ↓] eqIt neIt eqFl neFl
attribute [-go_sem] Zj.b4 Zj.b11 Zj.b12 Zj.b13 Zj.b21 Zj.b9 Zj.b3 Zj.b7 Zet.b1_1
theorem q_it {G:Nat->Prop}{W w:World}{L:List Ch}(s:St G W w L)(k:Nat){a:Addr}{n c:Nat}{l:List It}(hk:L[k]?=some (qC 2 a n c (l.flatMap itV))):l.length=n/\n<=c/\c<=maxLen/\a.spot=none/\∀i x,l[i]?=some x->w.cell? ⟨a.block,a.off+i*2,none⟩=some (.int .i64 x.1)/\w.cell? ⟨a.block,a.off+i*2+1,none⟩=some (.int .i64 x.2):=by
 obtain ⟨h1,h2,h3,h4,h5⟩:=s.qAt k hk;have hl:l.length=n:=by rw[Zdv (size:=2) l λ _ _=>rfl]at h1;omega
 refine ⟨hl,h2,h3,h4,λ i x hx=>⟨?_,?_⟩⟩
 ·have:=Zg9 (enc:=itV) (size:=2) (λ _ _=>rfl) hx (j:=0) (by omega);exact h5 (i*2) _ this
 ·have:=Zg9 (enc:=itV) (size:=2) (λ _ _=>rfl) hx (j:=1) (by omega);rw[Qck];exact h5 (i*2+1) _ this
theorem Zsh {G:Nat->Prop}{W w:World}{L:List Ch}(s:St G W w L){k n c:Nat}{a:Addr}{l:List It}(hk:L[k]?=some (qC 2 a n c (l.flatMap itV)))(hnd:l.Nodup) :
  Ct Tryz.prog Zj.id #[.slice (some a) n c] w λ v w'=>v = .slice (some a) n c/\Chg noB w w':=by
 refine Zj.ct λ R hR=>?_;obtain ⟨hl,hnc,hcm,hsp,_⟩:=q_it s k hk;obtain ⟨g,o,sp⟩:=a;simp only at hsp;subst hsp;unfold Zj.run;simp -dsimp[go_sem];refine Za (λ p1=>?_) (λ p1=>?_)
 ·exact hR _ _ ⟨rfl,Chg.refl _ _⟩
 ·unfold Zj.b4;refine Zj.l6_intro _ _ _ _ (λ y w'=>∃i:Nat,y = .int .i64 i/\1<=i/\Chg noB w w') (λ y _=>n+1-iv y) ⟨1,rfl,by omega,Chg.refl _ _⟩ ?_;rintro _ w1 ⟨i,rfl,hi,hc1⟩ C hC;unfold Zj.b7;simp -dsimp[go_sem];refine Za (λ p2=>?_) (λ p2=>?_)<;>simp at p2
  ·have wi:IntKind.i64.wrap ((i:Int)+1)=(i:Int)+1:=IntWalk.i64_in _ (by unfold maxLen at hcm;omega);obtain ⟨j,rfl⟩:∃j,i=j+1:=⟨i-1,by omega⟩;have wj:IntKind.i64.wrap (((j+1:Nat):Int)-1)=(j:Int):=by rw[IntWalk.i64_in _ (by unfold maxLen at hcm;omega)];omega
   have wj':IntKind.i64.wrap ((j:Int)+1-1)=(j:Int):=by rw[IntWalk.i64_in _ (by unfold maxLen at hcm;omega)];omega
   have hj1:j+1<l.length:=by omega
   have hj0:j<l.length:=by omega
   have hjn:j<n:=by omega
   obtain ⟨_,_,_,_,hcells⟩:=q_it (s.old hc1) k hk;obtain ⟨a1,a2⟩:=hcells (j+1) _ (Qb hj1);obtain ⟨b1,b2⟩:=hcells j _ (Qb hj0);simp only at a1 a2 b1 b2;have hne:l[j+1]≠l[j]:=λ e=>by
    have:=(Qt.1 hnd) j (j+1) hj0 hj1 (by omega);exact this e.symm
   have hb1:(0:Int)<=(j:Int)+1/\(j:Int)+1<(n:Int):=⟨by omega,by omega⟩;unfold Zj.b11;simp -dsimp[go_sem,p2,wj,wj',hb1,hjn,a1,a2,b1,b2];have hj0':(0:Int)<=(j:Int)/\(j:Int)<(n:Int):=⟨by omega,by omega⟩;have wj2:IntKind.i64.wrap (j:Int)=(j:Int):=IntWalk.i64_in _ (by unfold maxLen at hcm;omega);simp -dsimp[go_sem,wj2,hj0',b1,b2];have hf:(((l[j+1].1:Nat):Int) == ((l[j].1:Nat):Int) && ((l[j+1].2:Nat):Int) == ((l[j].2:Nat):Int))=false:=by
    rw[Qb5];intro h;rw[Qad,beq_iff_eq,beq_iff_eq]at h;exact hne (Prod.ext (by exact_mod_cast h.1) (by exact_mod_cast h.2))
   rw[hf];unfold Zj.b12;simp -dsimp[go_sem];unfold Zj.b21 Zj.b9;have wi':IntKind.i64.wrap ((j:Int)+1+1)=(j:Int)+1+1:=IntWalk.i64_in _ (by unfold maxLen at hcm;omega);simp -dsimp[go_sem,wi'];exact hC _ _ ⟨j+1+1,by simp,by omega,hc1.trans ((Chg.refl _ _).drew)⟩ (by simp[iv];omega)
  ·unfold Zj.b3;exact hR _ _ ⟨rfl,hc1⟩
theorem ZZ82 {w:World}{a:Option Addr}{n c:Nat}(h:n<=c):Ct Tryz.prog Za0.id #[.slice a n c] w λ v w'=>v = .slice a n n/\w=w':=by
 refine Za0.ct λ R hR=>?_;unfold Za0.run
 cases a with
 | none=>
  simp -dsimp[go_sem,h];exact hR _ _ ⟨rfl,rfl⟩
 | some a=>
  simp -dsimp[go_sem,h];exact hR _ _ ⟨rfl,rfl⟩
theorem Zul {G:Nat->Prop}{W w:World}{L:List Ch}(s:St G W w L){k n c:Nat}{a:Addr}{l:List It}(hk:L[k]?=some (qC 2 a n c (l.flatMap itV)))(hnd:l.Nodup)(hn:n<=1000000) :
  Ct Tryz.prog Zet.id #[.slice (some a) n c] w λ v w'=>v = .slice (some a) n n/\∃l':List It,l'.Perm l/\l'.Pairwise itLt/\St G W w' (L.set k (qC 2 a n n (l'.flatMap itV))):=by
 refine Zet.ct λ R hR=>?_;unfold Zet.run;simp -dsimp[go_sem];refine Zi (ZZ54 s hk hn) ?_;rintro _ w1 ⟨rfl,l',hp,hsr,s1⟩;have hkl:=(Qa.1 hk).1;have hk1:(L.set k (qC 2 a n c (l'.flatMap itV)))[k]?=some (qC 2 a n c (l'.flatMap itV)):=Qn hkl;have hnd1:l'.Nodup:=hp.nodup_iff.2 hnd;unfold Zet.b1_1;refine Zi (Zsh s1 hk1 hnd1) ?_;rintro _ w2 ⟨rfl,hc2⟩;have s2:=s1.old hc2;obtain ⟨_,hnc,_⟩:=q_it s1 k hk1;refine Zi (ZZ82 hnc) ?_;rintro _ _ ⟨rfl,rfl⟩;refine hR _ _ ⟨rfl,l',hp,?_,?_⟩
 ·rw[Qt]at hsr |-;intro i j hi hj hij;have h1:=hsr i j hi hj hij;have h2:=(Qt.1 hnd1) i j hi hj hij;have h3:l'[i].1≠l'[j].1\/l'[i].2≠l'[j].2:=by
   refine Qv λ h=>h2 (Prod.ext ?_ ?_)<;>omega
  unfold itLt at *;omega
 ·have:=s2.turn hk1 (d:=qC 2 a n n (l'.flatMap itV)) λ F ⟨h1,h2,h3,h4,h5,h6,h7,h8,h9⟩=>⟨h1,Ql _,by omega,h4,h5,h6,h7,λ j hj=>h8 j (by have:=Qbr 2 h2;omega),h9⟩;rw[Qbe]at this;exact this
end Go.Proofs.YtjibcckpehdbhaaGreatDoor
namespace Go.Px.Cn
open Go.Px
def cN (n:Nat):List Value:=[.int .i64 n]
end Go.Px.Cn
namespace Go.Proofs.YtjibcckpehdbhaaGreatDoor
open Go.Px Go.Px.Scan Go.Px.Cn Go.RowKit
attribute [-go_sem] Builtin.append_ Zey.b3 Zey.b4 Zey.b7_1 Zey.b7
theorem mBy:Zk1 Tryz.prog kInt 186 3 24 (.slice none 0 0) where
 tm:=Tryz.underlying186
 keyed:=Maps.int_keyed Tryz.underlying3
 key a ha:=mInt.key a ha
 zero w:=Tryz.zeroValue24 w
theorem mkBy (w:World):(Instr.makeMap 186 none).run Tryz.prog w = .ok (.map (some w.heap.size)) (w.alloc (.map #[] 0)):=by
 simp[Instr.makeMap,run_underlying Tryz.underlying186,go_sem]
theorem ZZ193 (a b c d:Option Addr)(m n o p e f g h:Nat)(x:Int)(q:Option Nat)(w:World):(Instr.build 206 #[(0,.agg #[.slice a m e,.slice b n f,.slice c o g,.int .i64 x,.slice d p h]),(1,.map q)]).run Tryz.prog w = .ok (.agg #[.slice a m e,.slice b n f,.slice c o g,.int .i64 x,.slice d p h,.map q]) w:=by simp[go_sem]
def byN (P:Prs)(k:Nat)(s:Int):List Nat:=(List.range k).filter λ p=>lft P p=s
theorem Zya (P:Prs)(k:Nat)(s:Int):byN P (k+1) s=if lft P k=s then byN P k s++[k] else byN P k s:=by
 unfold byN;rw[Qch,Qae];by_cases h:lft P k=s<;>simp[h]
def MkR (W:World)(mb:Nat)(A4:Option Addr)(c4:Nat)(P:Prs):Prop:=(∀w,Chg noB W w->w.cell? ⟨mb,4,none⟩=some (.slice A4 P.length c4)/\(Zq rPr).at1 w W.heap.size (.slice A4 P.length c4) P) /\
 ∃vm,(∀w,Chg noB W w->w.cell? ⟨mb,5,none⟩=some vm)/\∀s,Zdf s->∃A c,∀w,Chg noB W w->(Instr.lookup 186 vm (.int .i64 s) false).run Tryz.prog w = .ok (.slice A (byP P s).length c) w/\(0<(byP P s).length->∃g,A=some ⟨g,0,none⟩/\∀(i p:Nat),(byP P s)[i]?=some p->w.cell? ⟨g,i,none⟩=some (.int .i64 p))
theorem of_ct {w:World}{B:Nat}{vg:Value}{g:Gr}(hg:Zb7.atN w B vg g)(hB:B<=w.heap.size)(hl:g.prods.length<=97)(hli:∀p∈g.prods,Zdf p.1) :
  Ct Tryz.prog Zey.id #[vg] w λ v w'=>∃mb A4 c4,v = .pointer (some ⟨mb,0,none⟩)/\Chg noB w w'/\MkR w' mb A4 c4 g.prods:=by
 refine Zey.ct λ R hR=>?_;obtain ⟨A1,c1,A2,c2,A3,c3,A4,c4,rfl,⟨m1,m2,m3,m4⟩,hst,hc0,hgr⟩:=Zbg hg hB;have hr4:(Zq rPr).at1 w B (.slice A4 g.prods.length c4) g.prods:=by obtain ⟨_,_,_,_,_,_,_,_,e,_,_,_,_,h5,_⟩:=(Zcg hg).ex;injection e with e;injection e with e;simp at e;rw[e.2.2.2.1,e.2.2.2.2];exact h5
 have s1:=(St.refl noB w).alloc (gQ A1 c1 A2 c2 A3 c3 A4 c4 g) 27;unfold Zey.run;simp -dsimp[go_sem];generalize w.alloc (.cells (gQ A1 c1 A2 c2 A3 c3 A4 c4 g) 27)=w1 at s1 hc0 hgr |-;generalize w.heap.size=q at s1 hgr |-;have s2:=((s1.mapV Tryz.prog kInt 3).alloc #[.slice A1 g.terms.length c1,.slice A2 g.nons.length c2,.slice A3 g.levels.length c3,.int .i64 g.start,.slice A4 g.prods.length c4,.map (some w1.heap.size)] 206).push (c:=Ch.all (Zdu 3 1 cN ([]:List (Ent Int Nat)))) ⟨λ _=>0,λ i h=>absurd rfl h,λ k c h=>by simp[Zdu]at h⟩;simp -dsimp[go_sem,mkBy,↓ZZ193];have e1:(w1.alloc (.map #[] 0)).heap.size=w1.heap.size+1:=by simp
 rw[e1]at s2;generalize (w1.alloc (.map #[] 0)).alloc (.cells #[.slice A1 g.terms.length c1,.slice A2 g.nons.length c2,.slice A3 g.levels.length c3,.int .i64 g.start,.slice A4 g.prods.length c4,.map (some w1.heap.size)] 206)=w2 at s2 |-;generalize w1.heap.size+1=mb at s2 |-;obtain ⟨vm,hvm⟩:∃vm,Value.map (some w1.heap.size)=vm:=⟨_,rfl⟩;rw[hvm]at s2;clear s1 hc0;have y2:=s2.box 0 rfl;simp[Zw]at y2
 let LL:Nat->List (Ent Int Nat)->List Ch:=λ n E=>
  [boxC q 27 (gU A1 c1 A2 c2 A3 c3 A4 c4 g),Zdt Tryz.prog kInt 3 vm n (fE E),
    boxC mb 206 [.slice A1 g.terms.length c1,.slice A2 g.nons.length c2,.slice A3 g.levels.length c3,.int .i64 g.start,.slice A4 g.prods.length c4,vm],Ch.all (Zdu 3 1 cN E)]
 unfold Zey.b4;simp -dsimp[go_sem,y2];refine Zey.l6_intro _ _ _ _ _ _ (λ y w'=>∃(k n:Nat) (E:List (Ent Int Nat)),y = .int .i64 k/\k<=g.prods.length/\n<=k/\(E.map (·.1)).Nodup/\(∀s,vE E s=byN g.prods k s)/\St noB w w' (LL n E)) (λ y _=>g.prods.length-iv y)
  ⟨0,0,[],rfl,by omega,by omega,by simp,λ s=>by simp[vE,byN],s2⟩ ?_
 rintro _ w3 ⟨k,n,E,rfl,hk,hnk,hE,hv,s3⟩ C hC;have wk:=wS k (by omega);unfold Zey.b7;simp -dsimp[go_sem];refine Za (λ p1=>?_) (λ p1=>?_)<;>simp at p1
 ·obtain ⟨bp,op,vr,eA,hbp,x1,x2,x3,hr,z1,z2⟩:=Zcc (Rep.below hr4 (s3.chg.below hB λ _ _=>id)) p1;subst eA;obtain ⟨Ar,cr,rfl,hrl,hrm,_⟩:=Zz hr;obtain ⟨lf,hlf⟩:∃lf,g.prods[k].1=lf:=⟨_,rfl⟩;rw[hlf]at x1 z1;have s4:=s3.alloc #[.int .i64 lf,.slice Ar g.prods[k].2.1.length cr,.int .i64 g.prods[k].2.2] 103;unfold Zey.b7_1;have y4:=s4.box 2 rfl;have z4:=s4.box 4 rfl;simp only[Zw]at y4 z4;have y45:=y4.1.2.2.2.2.2.1;have z40:=z4.1.1;simp -dsimp[go_sem,p1,x1,x2,x3,y45,z40];have s4d:=s4.old ((Chg.refl noB _).drew);clear y4 z4 y45 z40 s4;generalize (w3.alloc (.cells #[.int .i64 lf,.slice Ar g.prods[k].2.1.length cr,.int .i64 g.prods[k].2.2] 103)).drew=w4 at s4d |-;generalize w3.heap.size=pb at s4d |-;have hl4:(Instr.lookup 186 vm (.int .i64 lf) false).run Tryz.prog w4=_:=s4d.mapVGet mBy 1 rfl lf z1;have s5:=s4d.lit 3 1 1 #[.int .i64 k] (by simp[maxLen]) rfl;have hl5:(Instr.lookup 186 vm (.int .i64 lf) false).run Tryz.prog (w4.alloc (.cells #[.int .i64 k] 3))=_:=s5.mapVGet mBy 1 rfl lf z1;have y5:=(s5.box 2 rfl).1.2.2.2.2.2.1;have z5:=(s5.box 4 rfl).1.1;have hnew:=Zdj w4 [.int .i64 k] 3 rfl;simp -dsimp[go_sem,hl4,hl5,y5,z5];clear hl4 hl5 y5 z5;have s5':=s4d.old ((Chg.refl noB w4).alloc (.cells #[.int .i64 k] 3));generalize w4.alloc (.cells #[.int .i64 k] 3)=w5 at s5' hnew |-;clear s5;have hvl:(vE E lf).length<=97:=by
   rw[hv lf];have:=Qah (λ p=>decide (lft g.prods p=lf)) (List.range k);rw[Qci]at this;unfold byN;omega
  refine s5'.grpAppend 3 rfl hE (λ _=>rfl) (λ x u hu=>by simp[cN]at hu;subst hu;rfl) Zgn iInt rfl (by decide) lf k hnew (by unfold maxLen;omega) (by unfold Zaf;omega) ?_;intro E' v' w6 h1 h2 h3 h4 h5 h6 h7 s6;have y6:=(s6.box 2 rfl).1.2.2.2.2.2.1;have z6:=(s6.box 4 rfl).1.1;obtain ⟨w7,hrun,s7⟩:=s6.mapVPut mBy 1 rfl lf z1 (by unfold maxLen;omega) v' (fE E') h2 h3;have hrun:(Instr.mapUpdate 186 vm (.int .i64 lf) v').run Tryz.prog w6 = .ok () w7:=hrun;simp -dsimp[go_sem,y6,z6,hrun,wk];refine hC _ _ ⟨k+1,n+1,E',by simp,by omega,by omega,h1,λ s=>?_,s7.take 4⟩ (by simp[iv];omega);have hlk:lft g.prods k=lf:=by unfold lft;rw[Qc,Qb p1];exact hlf
  rw[Zya,hlk];by_cases e:s=lf
  ·subst e;rw[if_pos rfl,h4,hv]
  ·rw[if_neg (Ne.symm e),h5 s e,hv]
 ·have hke:k=g.prods.length:=by omega
  subst hke;unfold Zey.b3;have hup:∀w',Chg noB w3 w'->St noB w w' (LL n E):=λ w' hc=>s3.old hc;refine hR _ _ ⟨mb,A4,c4,rfl,s3.chg,λ w' hc=>⟨((hup w' hc).box 2 rfl).1.2.2.2.2.1,Rep.up (Rep.below hr4 ((hup w' hc).chg.below hB λ _ _=>id)) (by have:=s3.chg.size;omega)⟩,vm,λ w' hc=>((hup w' hc).box 2 rfl).1.2.2.2.2.2.1,λ s hs=>?_⟩;have hl:∀w',Chg noB w3 w'->(Instr.lookup 186 vm (.int .i64 s) false).run Tryz.prog w' = .ok ((fE E s).getD (.slice none 0 0)) w':=λ w' hc=>(hup w' hc).mapVGet mBy 1 rfl s hs;have hby:vE E s=byP g.prods s:=hv s
  cases hf:E.find? (λ x=>decide (x.1=s)) with
  | none=>
   have e1:fE E s=none:=by unfold fE;rw[hf];rfl
   have e2:byP g.prods s=[]:=by rw[<-hby];unfold vE;rw[hf];rfl
   rw[e1]at hl;exact ⟨none,0,λ w' hc=>⟨by rw[e2];exact hl w' hc,λ h=>by rw[e2]at h;exact absurd h (Qbo 0)⟩⟩
  | some x=>
   obtain ⟨j,hj,hxs⟩:=Zju hf;have e1:fE E s=some (valE x):=by unfold fE;rw[hf];rfl
   have e2:byP g.prods s=x.2.2.2:=by rw[<-hby];unfold vE;rw[hf];rfl
   rw[e1]at hl;refine ⟨x.2.1,x.2.2.1,λ w' hc=>⟨by rw[e2];exact hl w' hc,λ h=>?_⟩⟩;rw[e2]at h |-;obtain ⟨F,s6,_⟩:=(hup w' hc).inAll' 3 rfl;have hkr:(Zdu 3 1 cN E)[j]?=some (rowC 3 1 x.2.1 x.2.2.2.length x.2.2.1 (x.2.2.2.flatMap cN)):=by unfold Zdu;rw[Qh,hj];rfl
   obtain ⟨F6,ho,_⟩:=s6.get hkr;obtain ⟨gb,eb,_⟩:=Zck ho (λ _ _=>rfl) (by decide) (i:=0) (x:=x.2.2.2[0]) (Qb h);refine ⟨gb,eb,λ i p hi=>?_⟩;obtain ⟨gb',eb',hcell,_⟩:=Zck ho (λ _ _=>rfl) (by decide) hi;rw[eb]at eb';injection eb' with eb';injection eb' with eb';subst eb';have:=hcell 0 _ rfl;simpa using this
end Go.Proofs.YtjibcckpehdbhaaGreatDoor
namespace Go.Px.Cn
open Go.Px
def rIt:Rep It where
 size:=2
 bytes:=16
 ok _ _ cs x:=cs=itV x
 len h:=by rw[h];rfl
 keep h _ _:=h
 one h u hu:=by rw[h]at hu;simp[itV]at hu;rcases hu with rfl | rfl<;>rfl
def aftI (P:Prs)(x:It):Int:=(aft P x).getD (-1)
structure Zxe (P:Prs):Prop where
 pos:∀p s,s∈rgt P p->0<s/\Zdf s
 no0:∀p,lft P 0∉rgt P p
theorem Zj0 {P:Prs}{x:It}{s:Int}(h:aft P x=some s):s∈rgt P x.1:=Qe h
theorem Zgv {w:World}{B n c:Nat}{A:Option Addr}{l:List It}(h:(Zq rIt).at1 w B (.slice A n c) l){i:Nat}(hi:i<l.length):∃b o,A=some ⟨b,o,none⟩/\b<B/\w.cell? ⟨b,o+i*2,none⟩=some (.int .i64 l[i].1)/\w.cell? ⟨b,o+i*2+1,none⟩=some (.int .i64 l[i].2):=by
 obtain ⟨b,o,ys,hA,hb,hy,hc⟩:=Zek h hi;have hy:ys=itV l[i]:=hy;subst hy;exact ⟨b,o,hA,hb,hc 0 _ rfl,hc 1 _ rfl⟩
end Go.Px.Cn
namespace Go.Proofs.YtjibcckpehdbhaaGreatDoor
open Go.Px Go.Px.Scan Go.Px.Cn Go.RowKit
attribute [-go_sem] Builtin.append_ Zb6.b1_1 Zal.b1_1
theorem Zhk:Tryz.prog.underlying 90=some (.slice 89):=Tryz.underlying90
theorem Zne:(Tryz.prog.info? 89).map (λ i=>(i.zero,i.size,i.bytes))=some (some (.agg #[.int .i64 0,.int .i64 0]),2,16):=by kernel_rfl
theorem Znr {W w:World}{mb:Nat}{A4:Option Addr}{c4:Nat}{P:Prs}(hm:MkR W mb A4 c4 P)(hc:Chg noB W w)(x:It)(hx:x.1<P.length/\x.2<=(rgt P x.1).length) :
  Ct Tryz.prog Zb6.id #[.pointer (some ⟨mb,0,none⟩),.agg #[.int .i64 x.1,.int .i64 x.2]] w λ v w'=>v = .int .i64 (aftI P x)/\Chg noB w w':=by
 refine Zb6.ct λ R hR=>?_;have s1:=(St.refl noB w).alloc #[.int .i64 x.1,.int .i64 x.2] 89;have hc1:Chg noB W (w.alloc (.cells #[.int .i64 x.1,.int .i64 x.2] 89)):=hc.trans ((Chg.refl _ _).alloc _);obtain ⟨k4,hpr⟩:=hm.1 _ hc1;obtain ⟨bp,op,vr,eA,hbp,x1,x2,x3,hr,_⟩:=Zcc hpr hx.1;subst eA;obtain ⟨Ar,cr,rfl,hrl,hrm,_⟩:=Zz hr;have y1:=(s1.box 0 rfl).1;have y10:=y1.1;unfold Zb6.run;obtain ⟨rt,er⟩:∃rt,(P[x.1]'hx.1).2.1=rt:=⟨_,rfl⟩;have ert:rgt P x.1=rt:=by rw[<-er];have h:=hx.1;simp[rgt,h]
 rw[er]at x2 hr hrl;rw[ert]at hx;have hlt:=hx.1;simp -dsimp[go_sem,k4,y10,hlt,x2];have s1d:=s1.old ((Chg.refl noB _).drew);have hc1d:=hc1.trans ((Chg.refl noB _).drew);have hrd:=Rep.below hr ((Chg.refl noB (w.alloc (.cells #[.int .i64 x.1,.int .i64 x.2] 89))).drew.below hc1.size λ _ _=>id);clear s1 hc1 k4 hpr x1 x2 x3 hr y1 y10;generalize (w.alloc (.cells #[.int .i64 x.1,.int .i64 x.2] 89)).drew=w1 at s1d hc1d hrd |-;have y1:=(s1d.box 0 rfl).1.2.1;refine Za (λ p1=>?_) (λ p1=>?_)
 ·have p1':x.2=rt.length:=by
   have:(x.2:Int)=(rt.length:Int):=by simpa using p1
   omega
  refine hR _ _ ⟨?_,s1d.chg⟩;unfold aftI aft;rw[ert,p1',Qx (Ql _)];rfl
 ·have p1':x.2<rt.length:=by
   have:(x.2:Int)≠(rt.length:Int):=by simpa using p1
   omega
  obtain ⟨br,or',eAr,hbr,cx,hxin⟩:=Go.Px.ints_at hrd p1';subst eAr;unfold Zb6.b1_1;simp -dsimp[go_sem,y1,p1',cx];refine hR _ _ ⟨?_,s1d.chg⟩;unfold aftI aft;rw[ert,Qb p1'];rfl
theorem Zuv {w:World}{B:Nat}{A:Option Addr}{c:Nat}{l:List It}(h:(Zq rIt).at1 w B (.slice A l.length c) l)(hB:B<=w.heap.size)(hl:l.length<=1000000)(hne:l≠[]) :
  Ct Tryz.prog Zal.id #[.slice A l.length c] w λ v w'=>∃g c',v = .slice (some ⟨g,0,none⟩) l.length c'/\St noB w w' [rowC 89 2 (some ⟨g,0,none⟩) l.length c' (l.flatMap itV)]:=by
 refine Zal.ct λ R hR=>?_;have hpos:0<l.length:=Qa6.2 hne;obtain ⟨b,o,eA,_⟩:=Zgv h hpos;have s1:=(St.refl noB w).lit 89 2 0 #[] (by simp) (by simp);unfold Zal.run;simp -dsimp[go_sem,eA];rw[Zfz 90 Zhk];simp -dsimp[go_sem];unfold Zal.b1_1;simp -dsimp[go_sem];rw[<-eA];refine s1.appendRd (r:=rIt) (enc:=itV) 0 rfl Zhk Zne rfl (by decide) (Rep.below h (s1.chg.below hB λ _ _=>id)) (λ h _=>h) (λ x _ u hu=>by simp[itV]at hu;rcases hu with rfl | rfl<;>rfl) (λ _ _=>rfl) (by unfold maxLen;omega) (by unfold Zaf;omega) ?_;intro a' c' w' s2;rw[Qa3]at s2 |-;obtain ⟨F,ho,_⟩:=s2.get (k:=0) rfl;obtain ⟨g,rfl,_⟩:=Zck ho (λ _ _=>rfl) (by decide) (i:=0) (x:=l[0]) (Qb hpos);exact hR _ _ ⟨g,c',rfl,s2⟩
end Go.Proofs.YtjibcckpehdbhaaGreatDoor
namespace Go.Px.Cn
open Go.Px
theorem CloI.nodup {P:Prs}{items l:List It}{S:List Int}{i:Nat}(h:CloI P items l S i)(hnd:items.Nodup)(h0:∀x∈items,x.2=0->x=(0,0))(hS:lft P 0∉S):l.Nodup:=by
 rw[h.eq,Qak];refine ⟨hnd,?_,λ a ha b hb=>?_⟩
 ·have e:S.flatMap (byL P)=(S.flatMap (byP P)).map λ p=>((p,0):It):=by
   rw[List.map_flatMap];rfl
  rw[e,List.Nodup,Qbk];exact (Zkg P h.nd).imp λ {a b} hab e=>hab (by injection e)
 ·rintro rfl;obtain ⟨s,hs,hb⟩:=Qbh.1 hb;obtain ⟨h1,h2,h3⟩:=Zou.1 hb;have:=h0 a ha h3;subst this;exact hS (by rw[h2];exact hs)
end Go.Px.Cn
namespace Go.Proofs.YtjibcckpehdbhaaGreatDoor
open Go.Px Go.Px.Scan Go.Px.Cn Go.RowKit
attribute [-go_sem] Builtin.append_ Zl.b3 Zl.b9 Zl.b16_1 Zl.b16 Zl.b13 Zl.b18 Zl.b17_1 Zl.b17 Zl.b11 Zl.b7 Zl.b4
theorem mHad:Zk1 Tryz.prog kInt 269 3 3 (.int .i64 0) where
 tm:=Tryz.underlying269
 keyed:=Maps.int_keyed Tryz.underlying3
 key a ha:=mInt.key a ha
 zero w:=Tryz.zeroValue3 w
theorem bItem (x:Int)(w:World):(Instr.build 89 #[(0,.int .i64 x)]).run Tryz.prog w = .ok (.agg #[.int .i64 x,.int .i64 0]) w:=by simp[go_sem]
theorem ZZ194 (x y:Int)(w:World):(Instr.build 89 #[(0,.int .i64 x),(1,.int .i64 y)]).run Tryz.prog w = .ok (.agg #[.int .i64 x,.int .i64 y]) w:=by simp[go_sem]
attribute [go_sem ↓] bItem ZZ194
def hadF (S:List Int)(s:Int):Option Value:=if s∈S then some (.int .i64 1) else none
theorem ZZ37 {W w w1:World}{mb:Nat}{A4:Option Addr}{c4:Nat}{P:Prs}(hm:MkR W mb A4 c4 P)(hW:Chg noB W w){vh:Value}{n g c i:Nat}{l:List It}{S:List Int}{s:Int}(hs:Zdf s)(hsS:s∉S)(hn:n<=1000000)(hl:l.length+P.length<=2000000)(hP:P.length<=97)
  {R:Ending->World->Prop} {C6:Value->Value->World->Prop}
  (s1:St noB w w1 [Zdt Tryz.prog kInt 3 vh n (hadF S),rowC 89 2 (some ⟨g,0,none⟩) l.length c (l.flatMap itV)])
  (hgo:∀g' c' w',St noB w w' [Zdt Tryz.prog kInt 3 vh (n+1) (hadF (S++[s])),rowC 89 2 (some ⟨g',0,none⟩) (l++byL P s).length c' ((l++byL P s).flatMap itV)]->Zl.b9 R C6 (.slice (some ⟨g',0,none⟩) (l++byL P s).length c') (.int .i64 i) w') :
  Zl.b13 R C6 (.pointer (some ⟨mb,0,none⟩)) (.slice (some ⟨g,0,none⟩) l.length c) vh (.int .i64 i) (.int .i64 s) w1:=by
 have hl1:(Instr.lookup 269 vh (.int .i64 s) false).run Tryz.prog w1=_:=s1.mapVGet mHad 0 rfl s hs;have ef:hadF S s=none:=by unfold hadF;rw[if_neg hsS]
 rw[ef]at hl1;simp only[Qdq]at hl1;have ef2:hadF (S++[s]) s=some (.int .i64 1):=by unfold hadF;rw[if_pos (by simp)]
 have ef3:∀c,c≠s->hadF (S++[s]) c=hadF S c:=λ c hc=>by
  unfold hadF;by_cases h:c∈S
  ·rw[if_pos (by simp[h]),if_pos h]
  ·rw[if_neg (by simp[h,hc]),if_neg h]
 obtain ⟨w2,hrun,s2⟩:=s1.mapVPut mHad 0 rfl s hs (by unfold maxLen;omega) (.int .i64 1) (hadF (S++[s])) ef2 ef3;have hrun:(Instr.mapUpdate 269 vh (.int .i64 s) (.int .i64 1)).run Tryz.prog w1 = .ok () w2:=hrun;have w01:IntKind.i64.wrap (0+1)=1:=by decide
 obtain ⟨_,vm,hk5,hlk⟩:=hm;obtain ⟨A,cA,hlA⟩:=hlk s hs;have k5:=hk5 w2 (hW.trans s2.chg);obtain ⟨hl2,_⟩:=hlA w2 (hW.trans s2.chg);unfold Zl.b13;simp -dsimp[go_sem,hl1,hrun,k5,hl2];obtain ⟨ps,hps⟩:∃ps,byP P s=ps:=⟨_,rfl⟩;have hbl:byL P s=ps.map λ p=>(p,0):=by unfold byL;rw[hps]
 have hpl:ps.length<=P.length:=by
  rw[<-hps];have:=Qah (λ p=>decide (lft P p=s)) (List.range P.length);rw[Qci]at this;unfold byP;exact this
 rw[hps]at hlA |-;rw[hbl]at hgo;refine Zl.l15_intro _ _ _ _ _ _ _ _ (λ y z w'=>∃(k g' c':Nat),y = .slice (some ⟨g',0,none⟩) (l++(ps.take k).map λ p=>((p,0):It)).length c'/\z = .int .i64 k/\k<=ps.length/\St noB w w' [Zdt Tryz.prog kInt 3 vh (n+1) (hadF (S++[s])),rowC 89 2 (some ⟨g',0,none⟩) (l++(ps.take k).map λ p=>((p,0):It)).length c' ((l++(ps.take k).map λ p=>((p,0):It)).flatMap itV)]) (λ _ z _=>ps.length-iv z)
  ⟨0,g,c,by simp,rfl,by omega,by simpa using s2⟩ ?_
 rintro _ _ w3 ⟨k,g',c',rfl,rfl,hk,s3⟩ C hC;have wk:=wS k (by omega);unfold Zl.b16;simp -dsimp[go_sem];refine Za (λ p1=>?_) (λ p1=>?_)<;>simp at p1
 ·obtain ⟨l2,hl2'⟩:∃l2,l++(ps.take k).map (λ p=>((p,0):It))=l2:=⟨_,rfl⟩;have hl2l:l2.length<=l.length+k:=by rw[<-hl2'];simp;omega
  have et:l++(ps.take (k+1)).map (λ p=>((p,0):It))=l2++[(ps[k],0)]:=by
   rw[Qd p1,Qu,<-Q5,hl2'];rfl
  rw[hl2']at s3 |-;obtain ⟨_,hcells⟩:=hlA w3 (hW.trans s3.chg);obtain ⟨gp,rfl,hc'⟩:=hcells (by omega);have cpk:=hc' k ps[k] (Qb p1);unfold Zl.b16_1;simp -dsimp[go_sem,p1,cpk];refine s3.append1 1 rfl Zhk Zne rfl (by decide) (news:=[.int .i64 ps[k],.int .i64 0]) rfl (by simp[Value.oneCell']) (by unfold maxLen;omega) (by unfold Zaf;omega) ?_;intro g2 cap w4 s4;simp -dsimp[go_sem,wk];refine hC _ _ _ ⟨k+1,g2,cap,?_,by simp,by omega,?_⟩ (by simp[iv];omega)
  ·rw[et];simp
  ·rw[et,Qq,Qab];exact s4
 ·have hke:k=ps.length:=by omega
  subst hke;rw[Qm]at s3 |-;exact hgo g' c' w3 s3
theorem Zsz {W w:World}{mb:Nat}{A4:Option Addr}{c4:Nat}{P:Prs}(hm:MkR W mb A4 c4 P)(hW:Chg noB W w)(hP:P.length<=97)(hsy:Zxe P){B:Nat}{A:Option Addr}{c:Nat}{items:List It}(h:(Zq rIt).at1 w B (.slice A items.length c) items)(hB:B<=w.heap.size)
  (hl:items.length<=500000) (hne:items≠[]) (hv:Val P items) (hnd:items.Nodup) (h0:∀x∈items,x.2=0->x=(0,0)) :
  Ct Tryz.prog Zl.id #[.pointer (some ⟨mb,0,none⟩),.slice A items.length c] w λ v w'=>∃(a:Addr) (r:List It),v = .slice (some a) r.length r.length/\r.Pairwise itLt/\(∀x,x∈r↔Cl0 P (·∈items) x)/\r.length<=items.length+P.length/\St noB w w' [qC 2 a r.length r.length (r.flatMap itV)]:=by
 refine Zl.ct λ R hR=>?_;unfold Zl.run;simp -dsimp[go_sem];refine Zi (Zuv h hB (by omega) hne) ?_;rintro _ w1 ⟨g,c',rfl,s1⟩;have s2:=(s1.mapV Tryz.prog kInt 3);simp -dsimp[go_sem,mkInt];generalize w1.alloc (.map #[] 0)=w2 at s2 |-;obtain ⟨vh,hvh⟩:∃vh,Value.map (some w1.heap.size)=vh:=⟨_,rfl⟩;rw[hvh]at s2 |-;have s2:=s2.pick (L':=[_,_]) [1,0] (by decide) rfl;have e0:(λ _=>none:Int->Option Value)=hadF []:=by funext s;unfold hadF;simp
 rw[e0]at s2;unfold Zl.b4;refine Zl.l6_intro _ _ _ _ _ _ (λ y z w'=>∃(i n g c:Nat) (l:List It) (S:List Int),y = .slice (some ⟨g,0,none⟩) l.length c/\z = .int .i64 i/\i<=l.length/\n<=i/\CloI P items l S i/\(∀s∈S,∃p,s∈rgt P p)/\St noB w w' [Zdt Tryz.prog kInt 3 vh n (hadF S),rowC 89 2 (some ⟨g,0,none⟩) l.length c (l.flatMap itV)]) (λ _ z _=>items.length+P.length+1-iv z)
  ⟨0,0,g,c',items,[],rfl,rfl,by omega,by omega,CloI.start P items,by simp,s2⟩ ?_
 rintro _ _ w3 ⟨i,n,g,c,l,S,rfl,rfl,hi,hn,hI,hS,s3⟩ C hC;have hll:=hI.len;have wi:=wS i (by omega);unfold Zl.b7;simp -dsimp[go_sem];refine Za (λ p1=>?_) (λ p1=>?_)<;>simp at p1
 ·have hx:l[i]?=some l[i]:=Qb p1;obtain ⟨x,hxe⟩:∃x,l[i]=x:=⟨_,rfl⟩;rw[hxe]at hx;have hxv:=(hI.sound x (Qe hx)).val hv;obtain ⟨F,ho,_⟩:=s3.get (k:=1) rfl;obtain ⟨gb,eb,hcell,_⟩:=Zck ho (λ _ _=>rfl) (by decide) hx;injection eb with eb;injection eb with eb;subst eb;have x1:=hcell 0 _ rfl;have x2:=hcell 1 _ rfl;simp only[Qb3]at x1;have hgo:∀w' n' g' c' l' S',i+1<=l'.length->n'<=i+1->CloI P items l' S' (i+1)->(∀s∈S',∃p,s∈rgt P p)->St noB w w' [Zdt Tryz.prog kInt 3 vh n' (hadF S'),rowC 89 2 (some ⟨g',0,none⟩) l'.length c' (l'.flatMap itV)]->Zl.b9 R C (.slice (some ⟨g',0,none⟩) l'.length c') (.int .i64 i) w':=by
   intro w' n' g' c' l' S' h1 h2 h3 h4 h5;unfold Zl.b9;simp -dsimp[go_sem,wi];exact hC _ _ _ ⟨i+1,n',g',c',l',S',rfl,by simp,h1,h2,h3,h4,h5⟩ (by simp[iv];omega)
  unfold Zl.b11;simp -dsimp[go_sem,p1,x1,x2];refine Zi (Znr hm (hW.trans s3.chg) x hxv) ?_;rintro _ w4 ⟨rfl,hc4⟩;have s4:=s3.old hc4;unfold Zl.b17;simp -dsimp[go_sem];unfold Zl.b18
  cases ha:aft P x with
  | none=>
   have e:aftI P x = -1:=by unfold aftI;rw[ha];rfl
   rw[e];simp -dsimp[go_sem];exact hgo w4 n g c l S (by omega) (by omega) (hI.skip hx λ s hs=>by rw[ha]at hs;cases hs) hS s4
  | some s=>
   have e:aftI P x=s:=by unfold aftI;rw[ha];rfl
   have hsr:=hsy.pos _ _ (Zj0 ha);have hs0:¬s<0:=by omega
   rw[e];simp -dsimp[go_sem,hs0];unfold Zl.b17_1;have hl4:(Instr.lookup 269 vh (.int .i64 s) false).run Tryz.prog w4=_:=s4.mapVGet mHad 0 rfl s hsr.2;by_cases hsS:s∈S
   ·have ef:hadF S s=some (.int .i64 1):=by unfold hadF;rw[if_pos hsS]
    rw[ef]at hl4;simp only[Qb0]at hl4;simp -dsimp[go_sem,hl4];unfold Zl.b18;simp -dsimp[go_sem];exact hgo w4 n g c l S (by omega) (by omega) (hI.skip hx λ s' hs'=>by rw[ha]at hs';injection hs' with hs';subst hs';exact hsS) hS s4
   ·have ef:hadF S s=none:=by unfold hadF;rw[if_neg hsS]
    rw[ef]at hl4;simp only[Qdq]at hl4;simp -dsimp[go_sem,hl4];unfold Zl.b18;simp -dsimp[go_sem];refine ZZ37 hm hW hsr.2 hsS (by omega) (by omega) hP s4 λ g' c' w' h'=>?_;refine hgo w' (n+1) g' c' _ _ (by rw[Qq];omega) (by omega) (hI.add hx ha hsS) (λ s' hs'=>?_) h';rcases Qk.1 hs' with hs'|hs'
    ·exact hS s' hs'
    ·rw[Qg]at hs';subst hs';exact ⟨_,Zj0 ha⟩
 ·have hie:i=l.length:=by omega
  subst hie;have hnd':=hI.nodup hnd h0 λ hin=>by
   obtain ⟨p,hp⟩:=hS _ hin;exact hsy.no0 p hp
  have s4:=s3.turn (k:=1) rfl (d:=qC 2 ⟨g,0,none⟩ l.length c (l.flatMap itV)) λ F ho=>Znk ho;unfold Zl.b3;refine Zi (Zul s4 (k:=1) rfl hnd' (by omega)) ?_;rintro _ w5 ⟨rfl,l',hp,hsr,s5⟩;have hlen:=hp.length_eq;rw[<-hlen]at s5 |-;exact hR _ _ ⟨⟨g,0,none⟩,l',rfl,hsr,λ x=>(hp.mem_iff).trans (hI.fin x),by omega,s5.pick [1] (by simp) rfl⟩
end Go.Proofs.YtjibcckpehdbhaaGreatDoor
namespace Go.Px.Cn
open Go.Px
theorem Zkr (P:Prs)(l:List It)(x:It)(s:Int):kerL P (l++[x]) s=if aft P x=some s then kerL P l s++[(x.1,x.2+1)] else kerL P l s:=by
 unfold kerL;rw[Qae,Qu];by_cases h:aft P x=some s<;>simp[h]
theorem Zqz (P:Prs)(l:List It)(s:Int):(kerL P l s).length<=l.length:=by
 unfold kerL;rw[Qp];exact Qah _ _
end Go.Px.Cn
namespace Go.Proofs.YtjibcckpehdbhaaGreatDoor
open Go.Px Go.Px.Scan Go.Px.Cn Go.RowKit
attribute [-go_sem] Builtin.append_ Zae.b3 Zae.b8 Zae.b7_1 Zae.b7_2 Zae.b7 Zae.b4
theorem mKer:Zk1 Tryz.prog kInt 91 3 90 (.slice none 0 0) where
 tm:=Tryz.underlying91
 keyed:=Maps.int_keyed Tryz.underlying3
 key a ha:=mInt.key a ha
 zero w:=Tryz.zeroValue90 w
theorem mkKer (w:World):(Instr.makeMap 91 none).run Tryz.prog w = .ok (.map (some w.heap.size)) (w.alloc (.map #[] 0)):=by
 simp[Instr.makeMap,run_underlying Tryz.underlying91,go_sem]
theorem Zr7 {W w:World}{mb:Nat}{A4:Option Addr}{c4:Nat}{P:Prs}(hm:MkR W mb A4 c4 P)(hW:Chg noB W w)(hP:P.length<=97)(hsy:Zxe P){B:Nat}{A:Option Addr}{c:Nat}{items:List It}(h:(Zq rIt).at1 w B (.slice A items.length c) items)(hB:B<=w.heap.size)
  (hl:items.length<=300000) (hne:items≠[]) (hv:Val P items) (hnd:items.Nodup) (h0:∀x∈items,x.2=0->x=(0,0)) :
  Ct Tryz.prog Zae.id #[.pointer (some ⟨mb,0,none⟩),.slice A items.length c] w λ v w'=>∃(n:Nat) (r:List It) (E:List (Ent Int It)),r.Pairwise itLt/\(∀x,x∈r↔Cl0 P (·∈items) x)/\r.length<=items.length+P.length/\(E.map (·.1)).Nodup/\(∀s,vE E s=kerL P r s)/\(∀s,s∈E.map (·.1)↔kerL P r s≠[])/\E.length<=r.length/\n<=r.length/\St noB w w' [Zdt Tryz.prog kInt 3 v n (fE E),Ch.all (Zdu 89 2 itV E)]:=by
 refine Zae.ct λ R hR=>?_;have s1:=(St.refl noB w).mapV Tryz.prog kInt 3;unfold Zae.run;simp -dsimp[go_sem,mkKer];generalize w.alloc (.map #[] 0)=w1 at s1 |-;obtain ⟨vm,hvm⟩:∃vm,Value.map (some w.heap.size)=vm:=⟨_,rfl⟩;rw[hvm]at s1 |-;have h1:=Rep.below h (s1.chg.below hB λ _ _=>id);unfold Zae.b4;refine Zi (Zsz hm (hW.trans s1.chg) hP hsy h1 (by have:=s1.chg.size;omega) (by omega) hne hv hnd h0) ?_;rintro _ w2 ⟨a,r,rfl,hsr,hr,hrl,s2⟩;have s2:=s1.seq s2;have hrv:Val P r:=λ x hx=>((hr x).1 hx).val hv;have e0:(λ _=>none:Int->Option Value)=fE ([]:List (Ent Int It)):=by funext s;simp[fE]
 rw[e0]at s2;have s3:=(s2.push (c:=Ch.all (Zdu 89 2 itV ([]:List (Ent Int It)))) ⟨λ _=>0,λ i h=>absurd rfl h,λ k c h=>by simp[Zdu]at h⟩).pick (L':=[_,_,_]) [0,2,1] (by decide) rfl;obtain ⟨_,_,hcm,hsp,_⟩:=q_it s3 2 rfl;obtain ⟨g,o,sp⟩:=a;simp only at hsp;subst hsp;simp -dsimp[go_sem];refine Zae.l6_intro _ _ _ _ _ _ _ (λ y w'=>∃(k n:Nat) (E:List (Ent Int It)),y = .int .i64 k/\k<=r.length/\n<=k/\(E.map (·.1)).Nodup/\(∀s,vE E s=kerL P (r.take k) s)/\(∀s,s∈E.map (·.1)↔kerL P (r.take k) s≠[])/\E.length<=k/\St noB w w' [Zdt Tryz.prog kInt 3 vm n (fE E),Ch.all (Zdu 89 2 itV E),qC 2 ⟨g,o,none⟩ r.length r.length (r.flatMap itV)]) (λ y _=>r.length-iv y)
  ⟨0,0,[],rfl,by omega,by omega,by simp,λ s=>by simp[vE,kerL],λ s=>by simp[kerL],by simp,s3⟩ ?_
 rintro _ w3 ⟨k,n,E,rfl,hk,hn,hE,hvE,hkE,hEl,s3⟩ C hC;have wk:=wS k (by omega);unfold Zae.b7;simp -dsimp[go_sem];refine Za (λ p1=>?_) (λ p1=>?_)<;>simp at p1
 ·obtain ⟨x,hxe⟩:∃x,r[k]=x:=⟨_,rfl⟩;have hx:r[k]?=some x:=by rw[<-hxe];exact Qb p1
  have hxv:=hrv x (Qe hx);have et:r.take (k+1)=r.take k++[x]:=by rw[Qd p1,hxe]
  obtain ⟨_,_,_,_,hcells⟩:=q_it s3 2 rfl;obtain ⟨x1,x2⟩:=hcells k x hx;simp only at x1 x2;have hgo:∀w' n' E',n'<=k+1->(E'.map (·.1)).Nodup->(∀s,vE E' s=kerL P (r.take (k+1)) s)->(∀s,s∈E'.map (·.1)↔kerL P (r.take (k+1)) s≠[])->E'.length<=k+1->St noB w w' [Zdt Tryz.prog kInt 3 vm n' (fE E'),Ch.all (Zdu 89 2 itV E'),qC 2 ⟨g,o,none⟩ r.length r.length (r.flatMap itV)]->Zae.b8 R C (.int .i64 k) w':=by
   intro w' n' E' h1 h2 h3 h4 h5 h6;unfold Zae.b8;simp -dsimp[go_sem,wk];exact hC _ _ ⟨k+1,n',E',by simp,by omega,h1,h2,h3,h4,h5,h6⟩ (by simp[iv];omega)
  have s4:=s3.alloc #[.int .i64 x.1,.int .i64 x.2] 89;have y4:=(s4.box 3 rfl).1;have y40:=y4.1;have y41:=y4.2.1;unfold Zae.b7_2;simp -dsimp[go_sem,p1,x1,x2,y40,y41];clear y40 y41 y4;generalize w3.alloc (.cells #[.int .i64 x.1,.int .i64 x.2] 89)=w4 at s4 |-;generalize w3.heap.size=q at s4 |-;refine Zi (Znr hm (hW.trans s4.chg) x hxv) ?_;rintro _ w5 ⟨rfl,hc5⟩;have s5:=s4.old hc5
  cases ha:aft P x with
  | none=>
   have e:aftI P x = -1:=by unfold aftI;rw[ha];rfl
   rw[e];simp -dsimp[go_sem];refine hgo w5 n E (by omega) hE (λ s=>?_) (λ s=>?_) (by omega) (s5.take 3)
   ·rw[et,Zkr,ha,if_neg (by simp),hvE]
   ·rw[et,Zkr,ha,if_neg (by simp),hkE]
  | some s=>
   have e:aftI P x=s:=by unfold aftI;rw[ha];rfl
   have hsr':=hsy.pos _ _ (Zj0 ha);have hs0:0<=s:=by omega
   have y5:=(s5.box 3 rfl).1;have y50:=y5.1;have y51:=y5.2.1;have wx:IntKind.i64.wrap ((x.2:Int)+1)=(x.2:Int)+1:=by
    have hxl:=(Qa.1 ha).1;obtain ⟨_,hpr⟩:=hm.1 w5 (hW.trans s5.chg);obtain ⟨_,_,_,_,_,_,_,_,hr',_⟩:=Zcc hpr hxv.1;obtain ⟨_,_,_,h1',h2',_⟩:=Zz hr';have ert:(rgt P x.1).length=(P[x.1]'hxv.1).2.1.length:=by have h:=hxv.1;simp[rgt,h]
    rw[ert]at hxl;exact IntWalk.i64_in _ (by unfold maxLen at h2';omega)
   have hl5:(Instr.lookup 91 vm (.int .i64 s) false).run Tryz.prog w5=_:=s5.mapVGet mKer 0 rfl s hsr'.2;rw[e];simp -dsimp[go_sem,hs0];unfold Zae.b7_1;simp -dsimp[go_sem,hl5,y50,y51,wx];have s6:=s5.old ((Chg.refl noB w5).alloc (.cells #[.int .i64 x.1,.int .i64 ((x.2:Int)+1)] 89));have hnew:=Zdj w5 [.int .i64 x.1,.int .i64 ((x.2:Int)+1)] 89 rfl;generalize w5.alloc (.cells #[.int .i64 x.1,.int .i64 ((x.2:Int)+1)] 89)=w6 at s6 hnew |-;have hvl:(vE E s).length<=r.length:=by
    rw[hvE];have:=Zqz P (r.take k) s;rw[Q6]at this;omega
   refine s6.grpAppend 1 rfl hE (λ _=>rfl) (λ x u hu=>by simp[itV]at hu;rcases hu with rfl | rfl<;>rfl) Zhk Zne rfl (by decide) s (x.1,x.2+1) (by simpa[itV]using hnew) (by unfold maxLen;omega) (by unfold Zaf;omega) ?_;intro E' v' w7 g1 g2 g3 g4 g5 g6 g7 s7;obtain ⟨w8,hrun,s8⟩:=s7.mapVPut mKer 0 rfl s hsr'.2 (by unfold maxLen;omega) v' (fE E') g2 g3;have hrun:(Instr.mapUpdate 91 vm (.int .i64 s) v').run Tryz.prog w7 = .ok () w8:=hrun;simp -dsimp[go_sem,hrun];have hkl:∀b,kerL P (r.take (k+1)) b=if b=s then kerL P (r.take k) s++[(x.1,x.2+1)] else kerL P (r.take k) b:=λ b=>by
    rw[et,Zkr,ha];by_cases e:b=s
    ·subst e;rw[if_pos rfl,if_pos rfl]
    ·rw[if_neg (by simpa using Ne.symm e),if_neg e]
   refine hgo w8 (n+1) E' (by omega) g1 (λ b=>?_) (λ b=>?_) (by omega) (s8.take 3)
   ·rw[hkl];by_cases e:b=s
    ·subst e;rw[if_pos rfl,g4,hvE]
    ·rw[if_neg e,g5 b e,hvE]
   ·rw[hkl,g6];by_cases e:b=s
    ·subst e;rw[if_pos rfl];simp
    ·rw[if_neg e,<-hkE];simp[e]
 ·have hke:k=r.length:=by omega
  subst hke;rw[Qm]at hvE hkE;unfold Zae.b3;exact hR _ _ ⟨n,r,E,hsr,hr,hrl,hE,hvE,hkE,hEl,hn,s3.take 2⟩
end Go.Proofs.YtjibcckpehdbhaaGreatDoor
namespace Go.Px
theorem ZZ68 {e:TypeId}{a:Option Addr}{n c:Nat}{l:Txt}{w:World}{F:Nat->Prop}(h:(rowC e 1 a n c (byC l)).ok w F):(txtC e a n c l).ok w F:=by
 obtain ⟨hl,hnc,hcm⟩:=Zee h;rw[ZZ40,Qb7]at hl;refine ⟨hl.symm,?_⟩;rcases h.1.2 with ⟨h1,h2⟩|⟨g,cap,cur,hv,hb,hg,hn,hm,hs,ht⟩
 ·injection h1 with h1 _ h3;exact Or.inl ⟨h1,h2,h3⟩
 ·injection hv with hv1 _ hv3;subst hv1 hv3;exact Or.inr ⟨g,cur,(0,0),rfl,h.2 g rfl,hg,Or.inl (Qy _),hn,hm,by rw[hs,Qb7],by rw[Qb7]at ht;exact ht⟩
end Go.Px
namespace Go.Proofs.YtjibcckpehdbhaaGreatDoor
open Go.Px Go.Px.Scan Go.Px.Cn Go.RowKit
attribute [-go_sem] Builtin.append_ Zd2.b3 Zd2.b4 Zd2.b7_1 Zd2.b7
theorem ZZ42 {G:Nat->Prop}{W w:World}{L:List Ch}(s:St G W w L)(k:Nat){a:Addr}{n c:Nat}{l:List It}(hk:L[k]?=some (qC 2 a n c (l.flatMap itV))):(Zq rIt).at1 w w.heap.size (.slice (some a) l.length c) l:=by
 obtain ⟨F,ho,_⟩:=s.get hk;obtain ⟨hl,hnc,hcm,hsp,hc⟩:=q_it s k hk;obtain ⟨g,o,sp⟩:=a;simp only at hsp;subst hsp;refine ⟨_,c,rfl,by omega,hcm,trivial,λ _=>⟨g,o,rfl,ho.2.2.2.2.2.1,λ i x hx=>⟨itV x,rfl,λ j u hj=>?_⟩⟩⟩;obtain ⟨h1,h2⟩:=hc i x hx
 match j,hj with
 | 0,hj=>injection hj with hj;subst hj;exact h1
 | 1,hj=>injection hj with hj;subst hj;exact h2
 | j+2,hj=>simp[itV]at hj
theorem Zzt:Tryz.prog.underlying 274=some (.slice 5):=Tryz.underlying274
theorem iByte:(Tryz.prog.info? 5).map (λ i=>(i.zero,i.size,i.bytes))=some (some (.int .u8 0),1,1):=by kernel_rfl
theorem ZZ135 (x y z:Int)(w:World):(Instr.buildSlice 274 3 #[(0,.int .u8 x),(1,.int .u8 y),(2,.int .u8 z)]).run Tryz.prog w = .ok (.slice (some ⟨w.heap.size,0,none⟩) 3 3) (w.alloc (.cells #[.int .u8 x,.int .u8 y,.int .u8 z] 5)):=by
 have e1:∀(A:Array Value) (k:Nat) (q:Int),Array.foldl (λ (cs:Array Value) (x:Value×Nat)=>cs.setIfInBounds (k+x.snd) x.fst) A (Value.int .u8 q).cells.zipIdx 0 1=A.setIfInBounds k (.int .u8 q):=λ A k q=>rfl;have e0:∀(A:Array Value) (q:Int),Array.foldl (λ (cs:Array Value) (x:Value×Nat)=>cs.setIfInBounds x.snd x.fst) A (Value.int .u8 q).cells.zipIdx 0 1=A.setIfInBounds 0 (.int .u8 q):=λ A q=>rfl;simp[go_sem,e0,e1]
attribute [go_sem ↓] ZZ135
theorem u8w (n:Nat):IntKind.u8.wrap (n:Int)=((UInt8.ofNat n).toNat:Int):=by
 simp[IntKind.wrap,IntKind.bits,IntKind.signed]
theorem ZZ146 {w:World}{B:Nat}{A:Option Addr}{c:Nat}{l:List It}(h:(Zq rIt).at1 w B (.slice A l.length c) l)(hB:B<=w.heap.size)(hl:l.length<=1000000)(hd:∀x∈l,x.1<=1000000/\x.2<=1000000) :
  Ct Tryz.prog Zd2.id #[.slice A l.length c] w λ v w'=>v = .string (BA (keyB l))/\Chg noB w w':=by
 refine Zd2.ct λ R hR=>?_;have s1:=(St.refl noB w).nilRow 5 1;unfold Zd2.run;simp -dsimp[go_sem];unfold Zd2.b4;simp -dsimp[go_sem];refine Zd2.l6_intro _ _ _ _ _ _ (λ y z w'=>∃(k:Nat) (a:Option Addr) (n cc:Nat),z = .int .i64 k/\y = .slice a n cc/\n=k*3/\k<=l.length/\St noB w w' [rowC 5 1 a n cc (byC (keyB (l.take k)))]) (λ _ z _=>l.length-iv z)
  ⟨0,none,0,0,rfl,rfl,rfl,by omega,s1⟩ ?_
 rintro _ _ w2 ⟨k,a,n,cc,rfl,rfl,hn,hk,s2⟩ C hC;have wk:=wS k (by omega);unfold Zd2.b7;simp -dsimp[go_sem];refine Za (λ p1=>?_) (λ p1=>?_)<;>simp at p1
 ·obtain ⟨b,o,rfl,hb,x1,x2⟩:=Zgv (Rep.below h (s2.chg.below hB λ _ _=>id)) p1;obtain ⟨x,hxe⟩:∃x,l[k]=x:=⟨_,rfl⟩;rw[hxe]at x1 x2;have hxd:=hd x (hxe ▸ Qj p1);have et:l.take (k+1)=l.take k++[x]:=by rw[Qd p1,hxe]
  have s3:=s2.alloc #[.int .i64 x.1,.int .i64 x.2] 89;have y3:=(s3.box 1 rfl).1;have y30:=y3.1;have y31:=y3.2.1;have w8:IntKind.i64.wrap ((x.2:Int) >>> 8)=((x.2 / 256:Nat):Int):=by
   have e:(x.2:Int) >>> 8=((x.2 / 256:Nat):Int):=by
    rw[Int.shiftRight_eq_div_pow];simp
   rw[e,IntWalk.i64_in _ (by omega)]
  unfold Zd2.b7_1;simp -dsimp[go_sem,p1,x1,x2,y30,y31];have e8:(x.2:Int) / 256=((x.2 / 256:Nat):Int):=by simp
  rw[e8,u8w,u8w,u8w];have hnew:∀j u,(byC (keyB [x]))[j]?=some u->((w2.alloc (.cells #[.int .i64 x.1,.int .i64 x.2] 89)).alloc (.cells #[.int .u8 (UInt8.ofNat x.1).toNat,.int .u8 (UInt8.ofNat x.2).toNat,.int .u8 (UInt8.ofNat (x.2 / 256)).toNat] 5)).cell? ((⟨w2.heap.size+1,0,none⟩:Addr).add j)=some u:=by
   have:=Zdj (w2.alloc (.cells #[.int .i64 x.1,.int .i64 x.2] 89)) (byC (keyB [x])) 5 (n:=w2.heap.size+1) (by simp);exact this
  have s4:=s3.old ((Chg.refl noB _).alloc (.cells #[.int .u8 (UInt8.ofNat x.1).toNat,.int .u8 (UInt8.ofNat x.2).toNat,.int .u8 (UInt8.ofNat (x.2 / 256)).toNat] 5));generalize ((w2.alloc (.cells #[.int .i64 x.1,.int .i64 x.2] 89)).alloc (.cells #[.int .u8 (UInt8.ofNat x.1).toNat,.int .u8 (UInt8.ofNat x.2).toNat,.int .u8 (UInt8.ofNat (x.2 / 256)).toNat] 5))=w4 at s4 hnew |-;refine s4.appendN 0 rfl Zzt iByte rfl (by decide) (m:=3) (news:=byC (keyB [x])) rfl hnew (λ u hu=>by
   obtain ⟨b,_,rfl⟩:=Qr.1 hu
   rfl) (by unfold maxLen;omega) (by unfold Zaf;omega) λ a' cap w5 s5 _=>?_
  simp -dsimp[go_sem,wk];refine hC _ _ _ ⟨k+1,a',n+3,cap,by simp,rfl,by omega,by omega,?_⟩ (by simp[iv];omega);have ek:keyB (l.take (k+1))=keyB (l.take k)++keyB [x]:=by rw[et];unfold keyB;rw[Qab]
  rw[ek,Zr0];exact s5.take 1
 ·have hke:k=l.length:=by omega
  subst hke;rw[Qm]at s2;have s3:=s2.turn (k:=0) rfl (d:=txtC 5 a n cc (keyB l)) λ F h=>ZZ68 h;have hcv:=s3.txtConv (k:=0) (t:=274) (u:=9) rfl Zzt Tryz.underlying5 uStr;unfold Zd2.b3;simp -dsimp[go_sem,hcv];exact hR _ _ ⟨rfl,s2.chg⟩
end Go.Proofs.YtjibcckpehdbhaaGreatDoor
namespace Go.Px.Cn
open Go.Px
def fLt (a b:It1):Prop:=a.1.1<b.1.1\/a.1.1=b.1.1/\(a.1.2<b.1.2\/a.1.2=b.1.2/\a.2<b.2)
instance (a b:It1):Decidable (fLt a b):=by unfold fLt;exact inferInstance
theorem ZZ186 (x:It1):¬fLt x x:=by unfold fLt;omega
theorem Zu8 (x y z:It1)(h1:fLt x y)(h2:fLt y z):fLt x z:=by unfold fLt at *;omega
theorem ZZ35 (x y:It1):fLt x y\/x=y\/fLt y x:=by
 unfold fLt;by_cases h:x=y
 ·exact Or.inr (Or.inl h)
 ·have:x.1.1≠y.1.1\/x.1.2≠y.1.2\/x.2≠y.2:=by
   refine Qv λ h2=>h (Prod.ext (Prod.ext ?_ ?_) ?_)<;>omega
  omega
def insF (a:It1)(s:List It1):List It1:=s.filter (λ z=>fLt z a)++a::s.filter (λ z=>¬fLt z a)
theorem Zhi {a:It1}{s:List It1}{z:It1}:z∈insF a s↔z=a\/z∈s:=by
 unfold insF;simp only[Qk,Qaa,Qz,decide_eq_true_eq];constructor
 ·rintro (⟨h,_⟩|h|⟨h,_⟩)
  ·exact Or.inr h
  ·exact Or.inl h
  ·exact Or.inr h
 ·rintro (h|h)
  ·exact Or.inr (Or.inl h)
  ·by_cases hz:fLt z a
   ·exact Or.inl ⟨h,hz⟩
   ·exact Or.inr (Or.inr ⟨h,by simpa using hz⟩)
theorem Zyy {a:It1}{s:List It1}(h:s.Pairwise fLt)(ha:a∉s):(insF a s).Pairwise fLt:=by
 unfold insF;rw[Qao,Qcc];have up:∀z∈s.filter (λ z=>decide (¬fLt z a)),fLt a z:=λ z hz=>by
  rw[Qz]at hz;have h2:¬fLt z a:=by simpa using hz.2
  rcases ZZ35 a z with h3|h3|h3
  ·exact h3
  ·subst h3;exact absurd hz.1 ha
  ·exact absurd h3 h2
 have dn:∀z∈s.filter (λ z=>decide (fLt z a)),fLt z a:=λ z hz=>by
  rw[Qz]at hz;simpa using hz.2
 refine ⟨h.filter _,⟨up,h.filter _⟩,λ x hx y hy=>?_⟩;rcases Qaa.1 hy with rfl|hy
 ·exact dn x hx
 ·exact Zu8 _ _ _ (dn x hx) (up y hy)
def Succ (P:Prs)(FI:List Int->Nat->Nat->Prop)(z z':It1):Prop:=∃s q u,aft P z.1=some s/\q<P.length/\lft P q=s/\FI ((rgt P z.1.1).drop (z.1.2+1)) z.2 u/\z'=((q,0),u)
structure ClI1 (P:Prs)(FI:List Int->Nat->Nat->Prop)(l0 s todo:List It1):Prop where
 snd:∀z,z∈s\/z∈todo->Cl1 P FI (·∈l0) z
 bas:∀z∈l0,z∈s\/z∈todo
 cls:∀z∈s,∀z',Succ P FI z z'->z'∈s\/z'∈todo
 srt:s.Pairwise fLt
section
variable {P:Prs} {FI:List Int->Nat->Nat->Prop}
theorem ClI1.start (l0:List It1):ClI1 P FI l0 [] l0:=⟨λ z h=> .base (by simpa using h),λ z h=>Or.inr h,by simp,by simp⟩
theorem ClI1.old {l0 s todo:List It1}{a:It1}(h:ClI1 P FI l0 s (a::todo))(ha:a∈s):ClI1 P FI l0 s todo:=by
 have hm:∀z,z∈s\/z∈a::todo->z∈s\/z∈todo:=λ z hz=>by
  rcases hz with hz|hz
  ·exact Or.inl hz
  ·rcases Qaa.1 hz with rfl|hz
   ·exact Or.inl ha
   ·exact Or.inr hz
 exact ⟨λ z hz=>h.snd z (hz.imp id λ h=>by simp[h]),λ z hz=>hm z (h.bas z hz),λ z hz z' hs=>hm z' (h.cls z hz z' hs),h.srt⟩
theorem ClI1.new {l0 s todo more:List It1}{a:It1}(h:ClI1 P FI l0 s (a::todo))(ha:a∉s)(hm:∀z,z∈more↔Succ P FI a z):ClI1 P FI l0 (insF a s) (todo++more):=by
 have up:∀z,z∈s\/z∈a::todo->z∈insF a s\/z∈todo++more:=λ z hz=>by
  rcases hz with hz|hz
  ·exact Or.inl (Zhi.2 (Or.inr hz))
  ·rcases Qaa.1 hz with rfl|hz
   ·exact Or.inl (Zhi.2 (Or.inl rfl))
   ·exact Or.inr (by simp[hz])
 refine ⟨λ z hz=>?_,λ z hz=>up z (h.bas z hz),λ z hz z' hs=>?_,Zyy h.srt ha⟩
 ·rcases hz with hz|hz
  ·rcases Zhi.1 hz with rfl|hz
   ·exact h.snd _ (Or.inr (by simp))
   ·exact h.snd _ (Or.inl hz)
  ·rcases Qk.1 hz with hz|hz
   ·exact h.snd _ (Or.inr (by simp[hz]))
   ·obtain ⟨s',q,u,h1,h2,h3,h4,rfl⟩:=(hm z).1 hz;exact .step (x:=a.1) (t:=a.2) (h.snd a (Or.inr (by simp))) h1 h2 h3 h4
 ·rcases Zhi.1 hz with rfl|hz
  ·exact Or.inr (Qa2 _ ((hm z').2 hs))
  ·exact up z' (h.cls z hz z' hs)
theorem ClI1.fin {l0 s:List It1}(h:ClI1 P FI l0 s [])(z:It1):z∈s↔Cl1 P FI (·∈l0) z:=by
 refine ⟨λ hz=>h.snd z (Or.inl hz),λ hz=>?_⟩
 induction hz with
 | base h1=>exact (h.bas _ h1).elim id λ h=>by cases h
 | @step x t s' q u _ h2 h3 h4 h5 ih=>exact (h.cls _ ih _ ⟨s',q,u,h2,h3,h4,h5,rfl⟩).elim id λ h=>by cases h
def behL (P:Prs)(a:List It1)(s:Int):List It1:=(a.filter λ z=>aft P z.1=some s).map λ z=>((z.1.1,z.1.2+1),z.2)
theorem Zl5 {a:List It1}{s:Int}{z:It1}:z∈behL P a s↔Go1 P (·∈a) s z:=by
 unfold behL Go1;rw[Qr];constructor
 ·rintro ⟨y,hy,rfl⟩;rw[Qz]at hy;exact ⟨y.1,hy.1,by simpa using hy.2,rfl⟩
 ·rintro ⟨y,h1,h2,h3⟩;exact ⟨(y,z.2),Qz.2 ⟨h1,by simpa using h2⟩,Prod.ext h3.symm rfl⟩
theorem Cl1.ne {K:It1->Prop}{z:It1}(h:Cl1 P FI K z):∃y,K y:=by
 induction h with
 | base h=>exact ⟨_,h⟩
 | step _ _ _ _ _ ih=>exact ih
theorem Cl1.congr {K K':It1->Prop}(h:∀x,K x↔K' x)(z:It1):Cl1 P FI K z↔Cl1 P FI K' z:=by
 have e:K=K':=by funext x;exact propext (h x)
 rw[e]
structure ColI (P:Prs)(FI:List Int->Nat->Nat->Prop)(sts:List (List It1))(n:Nat):Prop where
 start:∃a,sts[0]?=some a/\∀z,z∈a↔Cl1 P FI (λ z=>z=((0,0),0)) z
 r1:∀a∈sts,R1 P FI (·∈a)
 go:∀(j:Nat) a,j<n->sts[j]?=some a->∀s,(∃z,Go1 P (·∈a) s z)->∃a'∈sts,∀z,z∈a'↔Cl1 P FI (Go1 P (·∈a) s) z
 srt:∀a∈sts,a.Pairwise fLt
theorem ColI.fin {sts:List (List It1)}(h:ColI P FI sts sts.length):Lr1 P FI sts where
 start:=by
  obtain ⟨a,h1,h2⟩:=h.start;exact ⟨a,Qe h1,h2⟩
 r1:=h.r1
 go a ha s hs:=by
  obtain ⟨j,hj,rfl⟩:=Q3 ha;exact h.go j _ hj (Qb hj) s hs
theorem ColI.first {a:List It1}(h:∀z,z∈a↔Cl1 P FI (·∈[((0,0),0)]) z)(hs:a.Pairwise fLt):ColI P FI [a] 0 where
 start:=⟨a,rfl,λ z=>(h z).trans (Cl1.congr (λ x=>by simp) z)⟩
 r1 b hb:=by
  rw[Qg]at hb;subst hb;have e:(·∈b)=Cl1 P FI (λ z=>z=((0,0),0)):=by funext z;exact propext ((h z).trans (Cl1.congr (λ x=>by simp) z))
  rw[e];exact .start
 go j b hj:=by omega
 srt b hb:=by rw[Qg]at hb;subst hb;exact hs
theorem ColI.snoc {sts:List (List It1)}{i:Nat}(h:ColI P FI sts i){a k:List It1}{s:Int}(ha:sts[i]?=some a)(hk:∀z,z∈k↔Cl1 P FI (·∈behL P a s) z)(hne:k≠[])(hs:k.Pairwise fLt):ColI P FI (sts++[k]) i:=by
 have hil:=(Qa.1 ha).1;have hk':∀z,z∈k↔Cl1 P FI (Go1 P (·∈a) s) z:=λ z=>(hk z).trans (Cl1.congr (λ x=>Zl5) z);refine ⟨?_,λ m hm=>?_,λ j m hj hm s' hx=>?_,λ m hm=>?_⟩
 ·obtain ⟨b,h1,h2⟩:=h.start;exact ⟨b,by rw[Qf (by omega)];exact h1,h2⟩
 ·rcases Qk.1 hm with hm|hm
  ·exact h.r1 m hm
  ·rw[Qg]at hm;subst hm;have e:(·∈m)=Cl1 P FI (Go1 P (·∈a) s):=by funext z;exact propext (hk' z)
   rw[e];obtain ⟨z,hz⟩:=Qbv m hne;exact .step (h.r1 a (Qe ha)) ((hk' z).1 hz).ne
 ·rw[Qf (by omega)]at hm;obtain ⟨l',h1,h2⟩:=h.go j m hj hm s' hx;exact ⟨l',Q0 _ h1,h2⟩
 ·rcases Qk.1 hm with hm|hm
  ·exact h.srt m hm
  ·rw[Qg]at hm;subst hm;exact hs
theorem ColI.next {sts:List (List It1)}{i:Nat}(h:ColI P FI sts i){a:List It1}(ha:sts[i]?=some a)(hg:∀s,(∃z,Go1 P (·∈a) s z)->∃a'∈sts,∀z,z∈a'↔Cl1 P FI (·∈behL P a s) z):ColI P FI sts (i+1):=by
 refine ⟨h.start,h.r1,λ j m hj hm s hx=>?_,h.srt⟩;rcases Qay j i with h1|h1
 ·exact h.go j m h1 hm s hx
 ·have:j=i:=by omega
  subst this;rw[ha]at hm;injection hm with hm;subst hm;obtain ⟨a',h2,h3⟩:=hg s hx;exact ⟨a',h2,λ z=>(h3 z).trans (Cl1.congr (λ x=>Zl5) z)⟩
end
def Zdl (a:List It1):List It:=a.foldl (λ out z=>if out.getLast?=some z.1 then out else out++[z.1]) []
theorem Zin (a:List It1)(z:It1):Zdl (a++[z])=if (Zdl a).getLast?=some z.1 then Zdl a else Zdl a++[z.1]:=by
 unfold Zdl;rw[Qdn];rfl
theorem Zj5 (a:List It1)(x:It):x∈Zdl a↔Core (·∈a) x:=by
 have key:∀n,∀a:List It1,a.length=n->∀x,x∈Zdl a↔Core (·∈a) x:=by
  intro n
  induction n with
  | zero=>intro a ha x;rw[Qcl]at ha;subst ha;simp[Zdl,Core]
  | succ n ih=>
   intro a ha x;obtain ⟨b,z,rfl⟩:∃b z,a=b++[z]:=by
    have hne:a≠[]:=by rintro rfl;simp at ha
    exact ⟨a.dropLast,a.getLast hne,(Qba hne).symm⟩
   have ihb:=ih b (by simpa using ha);rw[Zin];have hc:Core (·∈b++[z]) x↔Core (·∈b) x\/x=z.1:=by
    constructor
    ·rintro ⟨t,ht⟩;rcases Qk.1 ht with ht|ht
     ·exact Or.inl ⟨t,ht⟩
     ·rw[Qg]at ht;exact Or.inr (by rw[<-ht])
    ·rintro (⟨t,ht⟩|rfl)
     ·exact ⟨t,Q0 _ ht⟩
     ·exact ⟨z.2,Qa2 _ (by simp)⟩
   rw[hc,<-ihb x];split
   ·rename_i h;have hz:z.1∈Zdl b:=List.mem_of_getLast? h;exact ⟨Or.inl,λ h=>h.elim id λ e=>e ▸ hz⟩
   ·rw[Qk,Qg]
 exact key _ a rfl x
theorem Zwq {a:List It1}(h:a.Pairwise fLt):(Zdl a).Pairwise itLt/\∀x,(Zdl a).getLast?=some x->∃t,a.getLast?=some (x,t):=by
 have key:∀n,∀a:List It1,a.length=n->a.Pairwise fLt->(Zdl a).Pairwise itLt/\∀x,(Zdl a).getLast?=some x->∃t,a.getLast?=some (x,t):=by
  intro n
  induction n with
  | zero=>intro a ha _;rw[Qcl]at ha;subst ha;exact ⟨by simp[Zdl],λ x h=>by simp[Zdl]at h⟩
  | succ n ih=>
   intro a ha hp;obtain ⟨b,z,rfl⟩:∃b z,a=b++[z]:=by
    have hne:a≠[]:=by rintro rfl;simp at ha
    exact ⟨a.dropLast,a.getLast hne,(Qba hne).symm⟩
   rw[Qao]at hp;obtain ⟨hb,_,hbz⟩:=hp;obtain ⟨h1,h2⟩:=ih b (by simpa using ha) hb;rw[Zin];split
   ·rename_i h;refine ⟨h1,λ x hx=>?_⟩;rw[h]at hx;injection hx with hx;subst hx;exact ⟨z.2,by simp⟩
   ·rename_i h;refine ⟨?_,λ x hx=>⟨z.2,by simp at hx |-;rw[<-hx]⟩⟩;rw[Qao];refine ⟨h1,by simp,λ x hx y hy=>?_⟩;rw[Qg]at hy;subst hy;obtain ⟨t,ht⟩:=(Zj5 b x).1 hx;have:=hbz _ ht z (by simp);unfold fLt at this;unfold itLt;by_cases e:x=z.1
    ·exfalso
     subst e;have hne:Zdl b≠[]:=by rintro e;rw[e]at hx;cases hx
     obtain ⟨y,hy⟩:∃y,(Zdl b).getLast?=some y:=⟨_,Qcn hne⟩;obtain ⟨t2,ht2⟩:=h2 y hy;have hyz:=hbz _ (List.mem_of_getLast? ht2) z (by simp);have hne2:y≠z.1:=λ e=>h (by rw[hy,e]);have hlast:∀w∈Zdl b,w=y\/itLt w y:=by
      intro w hw;obtain ⟨c,hc⟩:∃c,Zdl b=c++[y]:=⟨(Zdl b).dropLast,by
       have:=Qba hne
       rw[Qcn hne]at hy
       injection hy with hy
       rw[hy]at this;exact this.symm⟩
      rw[hc]at hw h1;rw[Qao]at h1;rcases Qk.1 hw with hw|hw
      ·exact Or.inr (h1.2.2 w hw y (by simp))
      ·rw[Qg]at hw;exact Or.inl hw
     rcases hlast z.1 hx with h3|h3
     ·exact hne2 h3.symm
     ·unfold itLt at h3;unfold fLt at hyz;simp only at hyz;omega
    ·have:x.1≠z.1.1\/x.2≠z.1.2:=by
      refine Qv λ h2=>e (Prod.ext ?_ ?_)<;>omega
     simp only at *;omega
 exact key _ a rfl h
end Go.Px.Cn
