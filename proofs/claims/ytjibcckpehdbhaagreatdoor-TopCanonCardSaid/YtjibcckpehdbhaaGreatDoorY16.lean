/-
  Texts of this claim: Rl2, Rl3, Bt3, Bt4, TP_sqA, TP_sqB, TP_sqC, TP_sqG, TP_sqY, Bt5, TP_unA, TP_unB, TP_unC, TP_unD, TP_unE, TP_unF, TP_unG, TP_unH, TP_unI, TP_unY, Bt6.
-/
import Derived.Test.YtjibcckpehdbhaaGreatDoorY14
import Derived.Test.YtjibcckpehdbhaaGreatDoorY15
import Derived.Test.YtjibcckpehdbhaaGreatDoorY09
import Derived.Test.YtjibcckpehdbhaaGreatDoorY08
import Derived.Test.YtjibcckpehdbhaaGreatDoorY12
import Derived.Test.YtjibcckpehdbhaaGreatDoorY04
import Derived.Test.YtjibcckpehdbhaaGreatDoorY13
set_option maxHeartbeats 1000000
set_option linter.unusedSimpArgs false
set_option linter.unusedVariables false
set_option maxRecDepth 100000
namespace Go.Px.Cn
open Go.Px Go.Px.Scan
def pT (ess:List (List (Int×Nat)))(i:Nat)(S:List Int):UInt16×UInt16->Int:=λ c=>if c.1.toNat<i\/(c.1.toNat=i/\(c.2.toNat:Int)∈S) then (toF ess c.1.toNat c.2.toNat:Int) else 0
section
variable {g:Gr} {ks:List (List It)} {ess:List (List (Int×Nat))}
theorem Zfr {q s:Nat}(hq:q<65536)(hs:s<65536):(tr q s).1.toNat=q/\(tr q s).2.toNat=s:=by
 unfold tr;exact ⟨UInt16.toNat_ofNat_of_lt' (by simpa using hq),UInt16.toNat_ofNat_of_lt' (by simpa using hs)⟩
theorem Zti {i s:Nat}{S:List Int}{q:Nat}(hq:q<65536)(hs:s<65536):pT ess i S (tr q s)=if q<i\/(q=i/\(s:Int)∈S) then (toF ess q s:Int) else 0:=by
 unfold pT;rw[(Zfr hq hs).1,(Zfr hq hs).2]
theorem Zz7 {i a r:Nat}{S:List Int}(hi:i<65536)(ha:a<65536)(hr:toF ess i a=r):pT ess i (S++[(a:Int)]) (tr i a)=(r:Int)/\∀c,c≠tr i a->pT ess i (S++[(a:Int)]) c=pT ess i S c:=by
 constructor
 ·rw[Zti hi ha,if_pos (Or.inr ⟨rfl,by simp⟩),hr]
 ·intro c hc;obtain ⟨q,s,hq,hs,rfl⟩:=Zu1 c;rw[Zti hq hs,Zti hq hs];have hne:¬(q=i/\s=a):=λ h=>hc (by rw[h.1,h.2]);have:(q<i\/(q=i/\(s:Int)∈S++[(a:Int)]))↔(q<i\/(q=i/\(s:Int)∈S)):=by
   rw[Qk,Qg];constructor
   ·rintro (h|⟨h1,h2|h2⟩)
    ·exact Or.inl h
    ·exact Or.inr ⟨h1,h2⟩
    ·exact absurd ⟨h1,by omega⟩ hne
   ·rintro (h|⟨h1,h2⟩)
    ·exact Or.inl h
    ·exact Or.inr ⟨h1,Or.inl h2⟩
  simp only[this]
theorem Zvw {i:Nat}{es:List (Int×Nat)}(hes:ess[i]?=some es):pT ess i (es.map (·.1))=pT ess (i+1) []:=by
 funext c;obtain ⟨q,s,hq,hs,rfl⟩:=Zu1 c;rw[Zti hq hs,Zti hq hs];by_cases h:q<i
 ·rw[if_pos (Or.inl h),if_pos (Or.inl (by omega))]
 ·by_cases h2:q=i
  ·subst h2;rw[if_pos (Or.inl (Nat.lt_succ_self _):q<q+1\/_)];split
   ·rfl
   ·rename_i hn;rw[Zrc λ es' hes' hm=>hn (Or.inr ⟨rfl,by rw[hes]at hes';injection hes' with hes';subst hes';exact hm⟩)];rfl
  ·rw[if_neg (by rintro (h | ⟨h,_⟩);exact absurd h (by omega);exact h2 h),if_neg (by rintro (h | ⟨_,h⟩);omega;simp at h)]
theorem Zz5:pT ess ess.length []=λ c=>(toF ess c.1.toNat c.2.toNat:Int):=by
 funext c;unfold pT;split
 ·rfl
 ·rename_i h;rw[Zrc λ es hes=>?_]
  ·rfl
  ·have:=(Qa.1 hes).1;exact absurd (Or.inl this) h
theorem Zvq:pT ess 0 []=λ _=>0:=by
 funext c;unfold pT;rw[if_neg (by simp)]
theorem Zkt {w:World}{B:Nat}{ae:Option Addr}{n c:Nat}{es:List (Int×Nat)}(h:(Zq Zj8).at1 w B (.slice ae n c) es){k:Nat}(hk:k<es.length) :
  ∃b o,ae=some ⟨b,o,none⟩/\b<B/\w.cell? ⟨b,o+k*2,none⟩=some (.int .i64 es[k].1)/\w.cell? ⟨b,o+k*2+1,none⟩=some (.int .i64 es[k].2):=by
 obtain ⟨b,o,ys,hA,hb,rfl,hc⟩:=Zek h hk;refine ⟨b,o,hA,hb,?_,?_⟩
 ·have:=hc 0 _ rfl;simpa[Zj8]using this
 ·have:=hc 1 _ rfl;simpa[Zj8,Qck]using this
end
end Go.Px.Cn
namespace Go.Proofs.YtjibcckpehdbhaaGreatDoor
open Go.Px Go.Px.Scan Go.Px.Cn Go.RowKit
attribute [-go_sem] Builtin.append_ Zby.b3 Zby.b9 Zby.b14_1 Zby.b11 Zby.b4 Zby.b1_1 Zby.b1_2
def waC (tb:Nat)(gv:List Value)(A:Option Addr)(n c:Nat)(asked:Int)(mb:Nat):Ch:=boxC tb 340 (gv++[.slice A n c,.int .i64 asked,.int .i64 n,.map (some mb)])
theorem bWays (a b c d e:Option Addr)(n1 n2 n3 n4 n5 d1 d2 d3 d4 d5:Nat)(x y z:Int)(m:Nat)(w:World):(Instr.build 340 #[(0,.agg #[.slice a n1 d1,.slice b n2 d2,.slice c n3 d3,.int .i64 x,.slice d n4 d4]),(1,.agg #[.slice e n5 d5,.int .i64 y,.int .i64 z]),(2,.map (some m))]).run Tryz.prog w = .ok (.agg #[.slice a n1 d1,.slice b n2 d2,.slice c n3 d3,.int .i64 x,.slice d n4 d4,.slice e n5 d5,.int .i64 y,.int .i64 z,.map (some m)]) w:=by
 have e1:∀(A:Array Value) (k:Nat),Array.foldl (λ (cs:Array Value) (x:Value×Nat)=>cs.setIfInBounds (k+x.snd) x.fst) A (Value.map (some m)).cells.zipIdx 0 1=A.setIfInBounds k (.map (some m)):=λ A k=>rfl;simp[go_sem,e1]
theorem bTr (x y:Int)(w:World):(Instr.build 190 #[(0,.int .i64 x),(1,.int .i64 y)]).run Tryz.prog w = .ok (.agg #[.int .i64 x,.int .i64 y]) w:=by simp[go_sem]
attribute [go_sem ↓] bWays bTr
theorem Zpk {W w:World}{tb mb i cnt:Nat}{A:Option Addr}{c:Nat}{asked:Int}{gv:List Value}{g:Gr}{ks:List (List It)}{ess:List (List (Int×Nat))}{es:List (Int×Nat)}{ae:Option Addr}{B:Nat}{R:EP}{C6:VP}(h:AutP g ks ess)(hgv:gv.length=5)
  (hes:ess[i]?=some es) (hrd:∀w',Chg noB W w'->(Zq Zj8).at1 w' B (.slice ae es.length es.length) es) (hi:i<300) (hcnt:cnt<=40000)
  (s:St noB W w [waC tb gv A ks.length c asked mb,mapC Tryz.prog kTr 190 3 (.map (some mb)) cnt (pT ess i [])])
  (hgo:∀w' cnt',cnt'<=cnt+130->St noB W w' [waC tb gv A ks.length c asked mb,mapC Tryz.prog kTr 190 3 (.map (some mb)) cnt' (pT ess (i+1) [])]->Zby.b9 R C6 (.int .i64 i) w') :
  Zby.l13 R C6 (.pointer (some ⟨tb,0,none⟩)) (.int .i64 i) (.int .i64 i) (.slice ae es.length es.length) (.int .i64 es.length) (.int .i64 0) w:=by
 have hel:=h.eslen hes;obtain ⟨g1,g2,g3,g4,g5,rfl⟩:∃a b c d e,gv=[a,b,c,d,e]:=by
  match gv,hgv with
  | [a,b,c,d,e],_=>exact ⟨a,b,c,d,e,rfl⟩
 refine Zby.l13_intro _ _ _ _ _ _ _ _ _ (λ y w'=>∃k cnt':Nat,y = .int .i64 k/\k<=es.length/\cnt'<=cnt+k/\St noB W w' [waC tb [g1,g2,g3,g4,g5] A ks.length c asked mb,mapC Tryz.prog kTr 190 3 (.map (some mb)) cnt' (pT ess i ((es.take k).map (·.1)))]) (λ y _=>es.length-iv y)
  ⟨0,cnt,rfl,Qy _,Ql _,s⟩ ?_
 rintro _ w1 ⟨k,cnt',rfl,hk,hcnt',s1⟩ C hC;simp -dsimp[go_sem];refine Za (λ p1=>?_) (λ p1=>?_)<;>simp at p1
 ·have wk:=wS k (by omega);obtain ⟨b,o,rfl,hb,x1,x2⟩:=Zkt (hrd w1 s1.chg) p1;have hm:=Qj p1;obtain ⟨hs1,hs2⟩:=h.sym hes hm;have hf:=h.find hes hm;have et:es.take (k+1)=es.take k++[es[k]]:=Qd p1;obtain ⟨e,he⟩:∃e,es[k]=e:=⟨_,rfl⟩;rw[he]at x1 x2 hm hs1 hs2 hf et;obtain ⟨a,r⟩:=e;simp only at x1 x2 hs1 hs2 hf;have hT:=h.cl.syms.t1;have hN:=h.cl.syms.n1;have hlen:=h.len;obtain ⟨an,rfl⟩:∃n:Nat,a=n:=⟨a.toNat,by omega⟩;have s2:St noB W (w1.alloc (.cells #[.int .i64 (an:Int),.int .i64 (r:Int)] 99)).drew ([waC tb [g1,g2,g3,g4,g5] A ks.length c asked mb,mapC Tryz.prog kTr 190 3 (.map (some mb)) cnt' (pT ess i ((es.take k).map (·.1)))]++[boxC w1.heap.size 99 [.int .i64 (an:Int),.int .i64 (r:Int)]]):=(s1.alloc #[.int .i64 (an:Int),.int .i64 (r:Int)] 99).old (Chg.refl noB _).drew;obtain ⟨y,_,yl⟩:=s1.box 0 (by unfold waC;rfl);simp[Zw]at y;obtain ⟨q1,q2⟩:=Zz7 (S:=(es.take k).map (·.1)) (ess:=ess) (i:=i) (a:=an) (r:=r) (by omega) (by omega) hf;have q1':pT ess i ((es.take k).map (·.1)) (tr i an)=0\/pT ess i ((es.take k).map (·.1)) (tr i an)≠0:=Classical.em _;obtain ⟨cn,hcn1,hcn2,hcn3⟩:∃n,(pT ess i ((es.take k).map (·.1)) (tr i an)=0->n=cnt'+1)/\(pT ess i ((es.take k).map (·.1)) (tr i an)≠0->n=cnt')/\n<=cnt'+1:=by
   rcases q1' with h|h
   ·exact ⟨cnt'+1,λ _=>rfl,λ h2=>absurd h h2,Ql _⟩
   ·exact ⟨cnt',λ h2=>absurd h2 h,λ _=>rfl,by omega⟩
  obtain ⟨w3,hrun,s3⟩:=s2.mapPut mTr 1 (b:=mb) (n:=cnt') (f:=pT ess i ((es.take k).map (·.1))) rfl (tr i an) trivial (by unfold maxLen;omega) (x:=(r:Int)) ⟨by omega,by omega⟩ (by omega) cn (pT ess i ((es.take k).map (·.1)++[(an:Int)])) hcn1 hcn2 q1 q2;rw[Ziz (by omega) (by omega)]at hrun;unfold Zby.b14_1;simp -dsimp[go_sem,p1,x1,x2,y,yl,hrun,wk];refine hC _ _ ⟨k+1,cn,by simp,by omega,by omega,?_⟩ (by simp[iv];omega);rw[et,Qu];exact s3.take 2
 ·have:k=es.length:=by omega
  subst this;rw[Qm,Zvw hes]at s1;exact hgo w1 cnt' (by omega) s1
structure AuR (w:World)(A:Option Addr)(ks:List (List It))(ess:List (List (Int×Nat))):Prop where
 st:StR w A ks
 ed:EdR w A ess
theorem AuR.keep {w w':World}{A:Option Addr}{ks:List (List It)}{ess:List (List (Int×Nat))}(h:AuR w A ks ess)(hc:Chg noB w w'):AuR w' A ks ess:=⟨Go.Px.Cn.StR.keep h.st hc,EdR.keep h.ed hc⟩
theorem AuR.at {w:World}{A:Option Addr}{ks:List (List It)}{ess:List (List (Int×Nat))}(h:AuR w A ks ess){i:Nat}{l:List It}{es:List (Int×Nat)}(hl:ks[i]?=some l)(hes:ess[i]?=some es) :
  ∃g a c ae,A=some ⟨g,0,none⟩/\w.cell? ⟨g,i*2,none⟩=some (.slice (some a) l.length c)/\w.cell? ⟨g,i*2+1,none⟩=some (.slice ae es.length es.length)/\(Zq Zj8).at1 w w.heap.size (.slice ae es.length es.length) es:=by
 obtain ⟨g,a,c,e1,h1,_⟩:=h.st i l hl;obtain ⟨g',ae,e2,h2,h3⟩:=h.ed i es hes;rw[e1]at e2;injection e2 with e2;injection e2 with e2;subst e2;exact ⟨g,a,c,ae,e1,h1,h2,h3⟩
def NoAut (g:Gr)(e:Nat):Prop:=(e=1/\¬Zbn g)\/(e=11/\Zbn g/\∃ks i,BldI g.prods ks i/\256<ks.length)
theorem ZZ8 {w:World}{B:Nat}{vg:Value}{g:Gr}(hg:Zb7.atN w B vg g)(hB:B<=w.heap.size) :
  Ct Tryz.prog Zby.id #[vg] w λ v w'=>Chg noB w w'/\((∃e:Nat,NoAut g e/\v = .tuple #[.pointer none,.int .i64 e]) \/
   ∃A1 c1 A2 c2 A3 c3 A4 c4 tb A c asked ks ess mb cnt,vg = .agg (gQ A1 c1 A2 c2 A3 c3 A4 c4 g)/\v = .tuple #[.pointer (some ⟨tb,0,none⟩),.int .i64 0]/\AutP g ks ess/\AuR w' A ks ess /\
    St noB w w' [waC tb (gU A1 c1 A2 c2 A3 c3 A4 c4 g) A ks.length c asked mb,mapC Tryz.prog kTr 190 3 (.map (some mb)) cnt (λ c=>(toF ess c.1.toNat c.2.toNat:Int))]):=by
 refine Zby.ct λ R hR=>?_;obtain ⟨A1,c1,A2,c2,A3,c3,A4,c4,rfl,⟨m1,m2,m3,m4⟩,hst,hc0,hgr⟩:=Zbg hg hB;have s1:=(St.refl noB w).alloc (gQ A1 c1 A2 c2 A3 c3 A4 c4 g) 27;have y1:=(hgr _ (Chg.refl _ _)).k;unfold Zby.run;simp -dsimp[go_sem,y1];have hg1:=Zx hg (s1.chg.below hB λ _ _=>id);have hB1:B<=(w.alloc (.cells (gQ A1 c1 A2 c2 A3 c3 A4 c4 g) 27)).heap.size:=by have:=s1.chg.size;omega
 clear hgr hc0 y1;generalize w.alloc (.cells (gQ A1 c1 A2 c2 A3 c3 A4 c4 g) 27)=w1 at s1 hg1 hB1 |-;generalize w.heap.size=q at s1 |-;refine Zi (Zl2 hg1 hB1) ?_;rintro v w2 ⟨hc2,hres⟩;have s2:=s1.old hc2;have bad:∀e:Nat,NoAut g e->v = .tuple #[.agg #[.slice none 0 0,.int .i64 0,.int .i64 0],.int .i64 e]->Zby.b1_2 R (.pointer (some ⟨q,0,none⟩)) v w2:=by
  rintro e he rfl;have hne:((e:Int) != 0)=true:=by rcases he with ⟨rfl,_⟩ | ⟨rfl,_⟩<;>rfl
  have s3:=s2.alloc #[.slice none 0 0,.int .i64 0,.int .i64 0] 34;unfold Zby.b1_2;simp -dsimp[go_sem,hne];exact hR _ _ ⟨s3.chg,Or.inl ⟨e,he,rfl⟩⟩
 rcases hres with ⟨hn,rfl⟩|⟨hcl,rfl⟩|⟨hcl,A,c,asked,ks,ess,rfl,hlr,hkl,hkv,hstr,hk0,hes,hed⟩
 ·exact bad 1 (Or.inl ⟨rfl,hn⟩) rfl
 ·exact bad 11 (Or.inr ⟨rfl,hcl.1,hcl.2⟩) rfl
 clear bad;have hP:AutP g ks ess:=⟨hcl,hlr,hkl,hkv,hk0,hes⟩;have s3:=s2.alloc #[.slice A ks.length c,.int .i64 asked,.int .i64 ks.length] 34;have hau:AuR w2 A ks ess:=⟨hstr,hed⟩;have hc3:Chg noB w2 (w2.alloc (.cells #[.slice A ks.length c,.int .i64 asked,.int .i64 ks.length] 34)):=(Chg.refl _ _).alloc _;unfold Zby.b1_2;simp -dsimp[go_sem];have hau3:=hau.keep hc3;generalize w2.alloc (.cells #[.slice A ks.length c,.int .i64 asked,.int .i64 ks.length] 34)=w3 at s3 hc3 hau3 |-;generalize w2.heap.size=ab at s3 |-;have y3:=(s3.box 0 rfl).1;have z3:=(s3.box 1 rfl).1;simp[Zw]at y3 z3;unfold Zby.b1_1;simp -dsimp[go_sem,y3,z3,mkTr];have hcw3:Chg noB w w3:=s3.chg;have hb3:∀w',Chg noB w3 w'->Zw w' ab 0 [.slice A ks.length c,.int .i64 asked,.int .i64 ks.length]:=λ w' hc=>((s3.old hc).box 1 rfl).1;have t1:=((St.refl noB w3).map Tryz.prog kTr 190 3).alloc #[.slice A1 g.terms.length c1,.slice A2 g.nons.length c2,.slice A3 g.levels.length c3,.int .i64 g.start,.slice A4 g.prods.length c4,.slice A ks.length c,.int .i64 asked,.int .i64 ks.length,.map (some w3.heap.size)] 340;have e1:(w3.alloc (.map #[] 0)).heap.size=w3.heap.size+1:=by simp
 rw[e1]at t1;generalize (w3.alloc (.map #[] 0)).alloc (.cells #[.slice A1 g.terms.length c1,.slice A2 g.nons.length c2,.slice A3 g.levels.length c3,.int .i64 g.start,.slice A4 g.prods.length c4,.slice A ks.length c,.int .i64 asked,.int .i64 ks.length,.map (some w3.heap.size)] 340)=w4 at t1 |-;generalize w3.heap.size+1=tb at t1 |-;generalize w3.heap.size=mb at t1 |-;have t2:St noB w3 w4 [waC tb (gU A1 c1 A2 c2 A3 c3 A4 c4 g) A ks.length c asked mb,mapC Tryz.prog kTr 190 3 (.map (some mb)) 0 (pT ess 0 [])]:=by
  rw[Zvq];exact t1.pick [1,0] (by decide) rfl
 have yb:=hb3 w4 t2.chg;simp[Zw]at yb;unfold Zby.b4;simp -dsimp[go_sem,yb];refine Zby.l6_intro _ _ _ _ _ _ (λ y w'=>∃i cnt:Nat,y = .int .i64 i/\i<=ks.length/\cnt<=i*130/\St noB w3 w' [waC tb (gU A1 c1 A2 c2 A3 c3 A4 c4 g) A ks.length c asked mb,mapC Tryz.prog kTr 190 3 (.map (some mb)) cnt (pT ess i [])]) (λ y _=>ks.length-iv y)
  ⟨0,0,rfl,Qy _,Ql _,t2⟩ ?_
 rintro _ w5 ⟨i,cnt,rfl,hi,hcnt,s5⟩ C hC;simp -dsimp[go_sem];refine Za (λ p1=>?_) (λ p1=>?_)<;>simp at p1
 ·have wi:=wS i (by omega);obtain ⟨l,es,hl,hes',_⟩:=hP.at p1;obtain ⟨gs,a,ca,ae,rfl,x1,x2,_⟩:=(hau3.keep s5.chg).at hl hes';have hel:=hP.eslen hes';have s6:=s5.alloc #[.slice (some a) l.length ca,.slice ae es.length es.length] 95;unfold Zby.b11;simp -dsimp[go_sem,p1,x1,x2];have s7:St noB w3 (w5.alloc (.cells #[.slice (some a) l.length ca,.slice ae es.length es.length] 95)) [waC tb (gU A1 c1 A2 c2 A3 c3 A4 c4 g) (some ⟨gs,0,none⟩) ks.length c asked mb,mapC Tryz.prog kTr 190 3 (.map (some mb)) cnt (pT ess i [])]:=s6.take 2;refine Zpk (B:=w3.heap.size) hP rfl hes' (λ w' hc=>?_) (by omega) (by omega) s7 λ w6 cnt' h1 s8=>?_
  ·obtain ⟨gs2,_,_,ae2,e1,_,x2',x3'⟩:=hau3.at hl hes';injection e1 with e1;injection e1 with e1;subst e1;have:=s5.chg.at x2' id;rw[x2]at this;injection this with this;injection this with this;subst this;exact Rep.below x3' (hc.below (Ql _) λ _ _=>id)
  ·unfold Zby.b9;simp -dsimp[go_sem,wi];exact hC _ _ ⟨i+1,cnt',by simp,by omega,by omega,s8⟩ (by simp[iv];omega)
 ·have:i=ks.length:=by omega
  subst this;rw[<-hes.len,Zz5,hes.len]at s5;unfold Zby.b3;exact hR _ _ ⟨hcw3.trans s5.chg,Or.inr ⟨A1,c1,A2,c2,A3,c3,A4,c4,tb,A,c,asked,ks,ess,mb,cnt,rfl,rfl,hP,hau3.keep s5.chg,s5.lower hcw3⟩⟩
end Go.Proofs.YtjibcckpehdbhaaGreatDoor
namespace Go.Px.Cn
open Go.Px Go.Px.Scan
def trV (t:Nat×Int):List Value:=[.int .i64 (t.1:Int),.int .i64 t.2]
def rTrn:Rep (Nat×Int) where
 size:=2
 bytes:=16
 ok _ _ cs x:=cs=trV x
 len h:=by rw[h];rfl
 keep h _ _:=h
 one h u hu:=by rw[h]at hu;simp[trV]at hu;rcases hu with rfl | rfl<;>rfl
def trS (nT i:Nat)(es:List (Int×Nat)):List (Nat×Int):=(es.filter λ e=>decide ((nT:Int)<=e.1)).map λ e=>(i,e.1)
def trL (nT:Nat)(ess:List (List (Int×Nat))):List (Nat×Int):=ess.zipIdx.flatMap λ x=>trS nT x.2 x.1
theorem Zmb (nT:Nat)(ess:List (List (Int×Nat)))(es:List (Int×Nat)):trL nT (ess++[es])=trL nT ess++trS nT ess.length es:=by
 unfold trL;rw[Qdi,Qab];simp
theorem Zx1 (nT i:Nat)(es:List (Int×Nat))(e:Int×Nat):trS nT i (es++[e])=trS nT i es++if (nT:Int)<=e.1 then [(i,e.1)] else []:=by
 unfold trS;rw[Qae,Qu];congr 1;by_cases h:(nT:Int)<=e.1
 ·rw[if_pos h,Qaz (by simpa using h)];rfl
 ·rw[if_neg h,Qat (by simpa using h)];rfl
theorem Zud (nT i:Nat)(es:List (Int×Nat)):(trS nT i es).length<=es.length:=by
 unfold trS;rw[Qp];exact Qah _ _
theorem mem_trL {nT:Nat}{ess:List (List (Int×Nat))}{q:Nat}{s:Int}:(q,s)∈trL nT ess↔(nT:Int)<=s/\∃es,ess[q]?=some es/\s∈es.map (·.1):=by
 unfold trL trS;rw[Qbh];constructor
 ·rintro ⟨⟨es,i⟩,hx,h⟩;obtain ⟨e,he,h⟩:=Qr.1 h;injection h with h1 h2;subst h1 h2;rw[Qz]at he;have:=Qdd.1 hx;exact ⟨by simpa using he.2,es,this,Qr.2 ⟨e,he.1,rfl⟩⟩
 ·rintro ⟨h1,es,h2,h3⟩;obtain ⟨e,he,rfl⟩:=Qr.1 h3;exact ⟨(es,q),Qdd.2 h2,Qr.2 ⟨e,Qz.2 ⟨he,by simpa using h1⟩,rfl⟩⟩
theorem AutP.mem_trL {g:Gr}{ks:List (List It)}{ess:List (List (Int×Nat))}(h:AutP g ks ess){nT q:Nat}{s:Int}:(q,s)∈trL nT ess↔(nT:Int)<=s/\Tr g.prods ks q s:=by
 rw[Go.Px.Cn.mem_trL];refine and_congr_right λ _=>⟨λ ⟨es,h1,h2⟩=>?_,λ ht=>?_⟩
 ·obtain ⟨e,he,rfl⟩:=Qr.1 h2;exact (h.edge h1 he).tr
 ·obtain ⟨r,hr⟩:=h.au.gt ht;obtain ⟨⟨es,h1,h2⟩,_⟩:=h.gt hr;exact ⟨es,h1,Qr.2 ⟨_,h2,rfl⟩⟩
theorem Zot {nT:Nat}{ess:List (List (Int×Nat))}(h:∀es∈ess,es.length<=130):(trL nT ess).length<=ess.length*130:=by
 have key:∀n,n<=ess.length->(trL nT (ess.take n)).length<=n*130:=by
  intro n
  induction n with
  | zero=>intro _;simp[trL]
  | succ n ih=>
   intro hn;rw[Qd (by omega),Zmb,Qq,Qbw];have h1:=ih (by omega);have h2:=Zud nT (ess.take n).length (ess[n]'(by omega));have h3:=h _ (Qj (show n<ess.length by omega));omega
 have:=key ess.length (Ql _);rwa [Qm]at this
end Go.Px.Cn
namespace Go.Proofs.YtjibcckpehdbhaaGreatDoor
open Go.Px Go.Px.Scan Go.Px.Cn Go.RowKit
attribute [-go_sem] Builtin.append_ Zy.b3 Zy.b9 Zy.b15 Zy.b14_1 Zy.b14_2 Zy.b11 Zy.b4
theorem ZZ166:Tryz.prog.underlying 184=some (.slice 190):=Tryz.underlying184
theorem ZZ145:(Tryz.prog.info? 190).map (λ i=>(i.zero,i.size,i.bytes))=some (some (.agg #[.int .i64 0,.int .i64 0]),2,16):=by kernel_rfl
theorem Zyg {w:World}{a:Option Addr}{n c:Nat}(h:n<=c):Ct Tryz.prog Zaw.id #[.slice a n c] w λ v w'=>v = .slice a n n/\w=w':=by
 refine Zaw.ct λ R hR=>?_;unfold Zaw.run
 cases a with
 | none=>
  simp -dsimp[go_sem,h];exact hR _ _ ⟨rfl,rfl⟩
 | some a=>
  simp -dsimp[go_sem,h];exact hR _ _ ⟨rfl,rfl⟩
section
variable {W:World} {tb nT:Nat} {A:Option Addr} {c:Nat} {g:Gr} {ks:List (List It)} {ess:List (List (Int×Nat))} {A1 g2 g3 g4 g5:Value} {a1:Option Addr} {c1:Nat}
theorem Zsa {w:World}{i cnt:Nat}{es:List (Int×Nat)}{ae At:Option Addr}{B ct:Nat}{l0:List (Nat×Int)}{R:EP}{C6:Value->VP}(h:AutP g ks ess)
  (hbx:∀w',Chg noB W w'->w'.cell? ⟨tb,0,none⟩=some (.slice a1 nT c1)/\tb<w'.heap.size)
  (hes:ess[i]?=some es) (hrd:∀w',Chg noB W w'->(Zq Zj8).at1 w' B (.slice ae es.length es.length) es) (hi:i<300) (hl0:l0.length<=i*130)
  (s:St noB W w [rowC 190 2 At l0.length ct (l0.flatMap trV)])
  (hgo:∀w' At' ct',St noB W w' [rowC 190 2 At' (l0++trS nT i es).length ct' ((l0++trS nT i es).flatMap trV)]->Zy.b9 R C6 (.slice At' (l0++trS nT i es).length ct') (.int .i64 i) w') :
  Zy.l13 R C6 (.pointer (some ⟨tb,0,none⟩)) (.slice At l0.length ct) (.int .i64 i) (.int .i64 i) (.slice ae es.length es.length) (.int .i64 es.length) (.int .i64 0) w:=by
 have hel:=h.eslen hes;refine Zy.l13_intro _ _ _ _ _ _ _ _ _ _ (λ x y w'=>∃(k:Nat) (At':Option Addr) (ct':Nat),x = .slice At' (l0++trS nT i (es.take k)).length ct'/\y = .int .i64 k/\k<=es.length/\St noB W w' [rowC 190 2 At' (l0++trS nT i (es.take k)).length ct' ((l0++trS nT i (es.take k)).flatMap trV)]) (λ _ y _=>es.length-iv y)
  ⟨0,At,ct,by simp[trS],rfl,Qy _,by simpa[trS]using s⟩ ?_
 rintro _ _ w1 ⟨k,At',ct',rfl,rfl,hk,s1⟩ C hC;obtain ⟨l,hl⟩:∃l,l0++trS nT i (es.take k)=l:=⟨_,rfl⟩;have hll:l.length<=40000:=by
  have h1:=Zud nT i (es.take k);rw[Q6]at h1;rw[<-hl,Qq];omega
 rw[hl]at s1 |-;simp -dsimp[go_sem];refine Za (λ p1=>?_) (λ p1=>?_)<;>simp at p1
 ·have wk:=wS k (by omega);obtain ⟨b,o,rfl,hb,x1,x2⟩:=Zkt (hrd w1 s1.chg) p1;have hm:=Qj p1;have et:es.take (k+1)=es.take k++[es[k]]:=Qd p1;obtain ⟨e,he⟩:∃e,es[k]=e:=⟨_,rfl⟩;rw[he]at x1 x2 hm et;obtain ⟨a,r⟩:=e;simp only at x1 x2;have hT:=(h.sym hes hm).1;obtain ⟨yb,yl⟩:=hbx w1 s1.chg;have s2:St noB W (w1.alloc (.cells #[.int .i64 a,.int .i64 (r:Int)] 99)).drew ([rowC 190 2 At' l.length ct' (l.flatMap trV)]++[boxC w1.heap.size 99 [.int .i64 a,.int .i64 (r:Int)]]):=(s1.alloc #[.int .i64 a,.int .i64 (r:Int)] 99).old (Chg.refl noB _).drew;have up:∀w' l' At' ct',l'=l0++trS nT i (es.take (k+1))->St noB W w' [rowC 190 2 At' l'.length ct' (l'.flatMap trV)]->Zy.b15 R C6 C (.slice At' l'.length ct') (.int .i64 k) w':=λ w' l' At' ct' hl' s'=>by
   unfold Zy.b15;simp -dsimp[go_sem,wk];refine hC _ _ _ ⟨k+1,At',ct',by rw[hl'],by simp,by omega,by rw[<-hl'];exact s'⟩ (by simp[iv];omega)
  rw[et,Zx1,<-Q5,hl]at up;unfold Zy.b14_2;simp -dsimp[go_sem,p1,x1,x2,yb,yl];refine Za (λ p2=>?_) (λ p2=>?_)<;>simp at p2
  ·have hge:(nT:Int)<=a:=by omega
   rw[if_pos hge]at up;unfold Zy.b14_1;generalize (w1.alloc (.cells #[.int .i64 a,.int .i64 (r:Int)] 99)).drew=w2 at s2 |-;generalize w1.heap.size=pb at s2 |-;obtain ⟨y2,_,_⟩:=s2.box 1 rfl;simp[Zw]at y2;have s3:=s2.take 1;simp -dsimp[go_sem,y2];refine s3.append1 0 (e:=190) (size:=2) (a0:=At') (n:=l.length) (c:=ct') (xs:=l.flatMap trV) rfl ZZ166 ZZ145 rfl (by decide) (news:=[.int .i64 (i:Int),.int .i64 a]) rfl (by simp[Value.oneCell']) (by unfold maxLen;omega) (by unfold Zaf;omega) ?_;intro gA cap w4 s4;have e3:(l++[((i,a):Nat×Int)]).length=l.length+1:=by simp
   have:=up w4 (l++[(i,a)]) (some ⟨gA,0,none⟩) cap rfl (by rw[e3,Qab];exact s4);rw[e3]at this;exact this
  ·have hge:¬(nT:Int)<=a:=by omega
   rw[if_neg hge,Qas]at up;exact up _ l At' ct' rfl (s2.take 1)
 ·have:k=es.length:=by omega
  subst this;rw[Qm]at hl;rw[<-hl]at s1 |-;exact hgo w1 At' ct' s1
theorem Zri {w:World}{asked:Int}{mb:Nat}(h:AutP g ks ess)(hau:AuR w A ks ess)
  (hbx:∀w',Chg noB w w'->Zw w' tb 0 [.slice a1 nT c1,g2,g3,g4,g5,.slice A ks.length c,.int .i64 asked,.int .i64 ks.length,.map (some mb)]) :
  Ct Tryz.prog Zy.id #[.pointer (some ⟨tb,0,none⟩)] w λ v w'=>∃At ct,v = .slice At (trL nT ess).length (trL nT ess).length/\St noB w w' [rowC 190 2 At (trL nT ess).length ct ((trL nT ess).flatMap trV)]:=by
 refine Zy.ct λ R hR=>?_;have y:=hbx w (Chg.refl _ _);have hbx':∀w',Chg noB w w'->w'.cell? ⟨tb,0,none⟩=some (.slice a1 nT c1)/\tb<w'.heap.size:=λ w' hc=>by
  have:=(hbx w' hc).1;exact ⟨this,World.block_lt_of_cell? _ _ this⟩
 simp[Zw]at y;have hlen:=h.len;unfold Zy.run Zy.b1 Zy.b4;simp -dsimp[go_sem,y];refine Zy.l6_intro _ _ _ _ _ _ _ (λ x z w'=>∃(i:Nat) (At:Option Addr) (ct:Nat),x = .slice At (trL nT (ess.take i)).length ct/\z = .int .i64 i/\i<=ks.length/\St noB w w' [rowC 190 2 At (trL nT (ess.take i)).length ct ((trL nT (ess.take i)).flatMap trV)]) (λ _ z _=>ks.length-iv z)
  ⟨0,none,0,by simp[trL],rfl,Qy _,by simpa[trL]using (St.refl noB w).nilRow 190 2⟩ ?_
 rintro _ _ w1 ⟨i,At,ct,rfl,rfl,hi,s1⟩ C hC;obtain ⟨l,hl⟩:∃l,trL nT (ess.take i)=l:=⟨_,rfl⟩;have hll:l.length<=i*130:=by
  rw[<-hl];have:=Zot (nT:=nT) (ess:=ess.take i) λ es hes=>by
   obtain ⟨j,hj⟩:=Qo.1 (Qda hes);exact h.eslen hj
  rw[Q6]at this;have h2:min i ess.length*130<=i*130:=Qbr _ (Nat.min_le_left _ _);omega
 rw[hl]at s1 |-;simp -dsimp[go_sem];refine Za (λ p1=>?_) (λ p1=>?_)<;>simp at p1
 ·have wi:=wS i (by omega);obtain ⟨lk,es,hlk,hes',_⟩:=h.at p1;obtain ⟨gs,a,ca,ae,rfl,x1,x2,_⟩:=(hau.keep s1.chg).at hlk hes';have hel:=h.eslen hes';have s6:=s1.alloc #[.slice (some a) lk.length ca,.slice ae es.length es.length] 95;unfold Zy.b11;simp -dsimp[go_sem,p1,x1,x2];have s7:=s6.take 1;have hil:i<ess.length:=by rw[h.es.len];exact p1
  have e1:trL nT (ess.take (i+1))=l++trS nT i es:=by
   rw[Qd hil,Zmb,hl,Q6,Qb8 (by omega),(Qa.1 hes').2]
  refine Zsa (cnt:=0) (B:=w.heap.size) h hbx' hes' (λ w' hc=>?_) (by omega) hll s7 λ w6 At' ct' s8=>?_
  ·obtain ⟨gs2,_,_,ae2,e1,_,x2',x3'⟩:=hau.at hlk hes';injection e1 with e1;injection e1 with e1;subst e1;have:=s1.chg.at x2' id;rw[x2]at this;injection this with this;injection this with this;subst this;exact Rep.below x3' (hc.below (Ql _) λ _ _=>id)
  ·rw[<-e1]at s8 |-;obtain ⟨l',hl'⟩:∃l',trL nT (ess.take (i+1))=l':=⟨_,rfl⟩;rw[hl']at s8 |-;unfold Zy.b9;simp -dsimp[go_sem,wi];refine hC _ _ _ ⟨i+1,At',ct',by rw[hl'],by simp,by omega,by rw[hl'];exact s8⟩ (by simp[iv];omega)
 ·have:i=ks.length:=by omega
  subst this;rw[<-h.es.len,Qm]at hl;subst hl;obtain ⟨_,hnc,_⟩:=s1.rowSize 0 rfl;unfold Zy.b3;refine Zi (Zyg hnc) ?_;rintro _ _ ⟨rfl,rfl⟩;exact hR _ _ ⟨At,ct,rfl,s1⟩
theorem ZZ43 {w:World}{B:Nat}{vg:Value}{g:Gr}(hg:Zb7.atN w B vg g)(hB:B<=w.heap.size) :
  Ct Tryz.prog Zei.id #[vg] w λ v w'=>Chg noB w w'/\((∃e:Nat,NoAut g e/\v = .tuple #[.slice none 0 0,.int .i64 e]) \/
   ∃ks ess At ct,v = .tuple #[.slice At (trL g.terms.length ess).length (trL g.terms.length ess).length,.int .i64 0]/\AutP g ks ess/\St noB w w' [rowC 190 2 At (trL g.terms.length ess).length ct ((trL g.terms.length ess).flatMap trV)]):=by
 refine Zei.ct λ R hR=>?_;obtain ⟨A1,c1,A2,c2,A3,c3,A4,c4,rfl,⟨m1,m2,m3,m4⟩,hst,hc0,hgr⟩:=Zbg hg hB;have s1:=(St.refl noB w).alloc (gQ A1 c1 A2 c2 A3 c3 A4 c4 g) 27;have y1:=(hgr _ (Chg.refl _ _)).k;unfold Zei.run;simp -dsimp[go_sem,y1];have hg1:=Zx hg (s1.chg.below hB λ _ _=>id);have hB1:B<=(w.alloc (.cells (gQ A1 c1 A2 c2 A3 c3 A4 c4 g) 27)).heap.size:=by have:=s1.chg.size;omega
 clear hgr hc0 y1;generalize w.alloc (.cells (gQ A1 c1 A2 c2 A3 c3 A4 c4 g) 27)=w1 at s1 hg1 hB1 |-;refine Zi (ZZ8 hg1 hB1) ?_;rintro v w2 ⟨hc2,hres⟩;have hcw:=s1.chg.trans hc2;rcases hres with ⟨e,he,rfl⟩|⟨B1,d1,B2,d2,B3,d3,B4,d4,tb,A,c,asked,ks,ess,mb,cnt,hvg,rfl,hP,hau,s2⟩
 ·have hne:((e:Int) != 0)=true:=by rcases he with ⟨rfl,_⟩ | ⟨rfl,_⟩<;>rfl
  simp -dsimp[go_sem,hne];exact hR _ _ ⟨hcw,Or.inl ⟨e,he,rfl⟩⟩
 ·unfold Zei.b1_1;simp -dsimp[go_sem];refine Zi (Zri hP hau λ w' hc=>((s2.old hc).box 0 rfl).1) ?_;rintro _ w3 ⟨At,ct,rfl,s3⟩;exact hR _ _ ⟨hcw.trans s3.chg,Or.inr ⟨ks,ess,At,ct,rfl,hP,s3.lower hcw⟩⟩
end
theorem bSet (a:Option Addr)(n c:Nat)(s:Int)(w:World):(Instr.build 197 #[(0,.slice a n c),(1,.int .i64 s)]).run Tryz.prog w = .ok (.agg #[.slice a n c,.int .i64 s]) w:=by simp[go_sem]
attribute [go_sem ↓] bSet
theorem Ztw {W w:World}{size:Nat}{vm:Value}{ms:List Int}(hW:Chg noB W w)(hsz:size<=1024)(hrd:∀w',Chg noB w w'->(Zq rInt).at1 w' w'.heap.size vm ms) :
  Ct Tryz.prog Zfp.id #[.int .i64 size,vm] w λ v w'=>∃(b g:Nat) (ws:List Nat),v = .pointer (some ⟨b,0,none⟩)/\(∀m:Nat,Bit ws m=true↔(m:Int)∈ms/\m<size)/\St noB w w' [setC b g size ws]:=by
 refine Zfp.ct λ R hR=>?_;unfold Zfp.run Zfp.b1;obtain ⟨Q,hQ⟩:∃Q,(size+63) / 64=Q:=⟨_,rfl⟩;have hQ1:Q<=17:=by omega
 have w1:IntKind.i64.wrap ((size:Int)+63)=(size:Int)+63:=IntWalk.i64_in _ (by omega);have w2:((size:Int)+63).tdiv 64=(Q:Int):=by rw[Int.tdiv_eq_ediv_of_nonneg (by omega)];omega
 have w3:IntKind.i64.wrap (Q:Int)=(Q:Int):=IntWalk.i64_in _ (by omega);have s0:¬((size:Int)<0):=by omega
 have s1:¬((1024:Int)<(size:Int)):=by omega
 have smin:min (size:Int) 1024=(size:Int):=by omega
 have hmk:=ZZ46 w Q (by omega);have hnew:Zib size (List.replicate Q 0):=by rw[<-hQ];exact Zib.new size
 simp -dsimp[go_sem,w1,w2,w3,s0,s1,smin,hmk];have hc1:Chg noB w ((w.alloc (.cells (u64s (List.replicate Q 0)).toArray 263)).alloc (.cells #[.slice (some ⟨w.heap.size,0,none⟩) Q Q,.int .i64 size] 197)):=((Chg.refl _ _).alloc _).alloc _;have st:St noB w ((w.alloc (.cells (u64s (List.replicate Q 0)).toArray 263)).alloc (.cells #[.slice (some ⟨w.heap.size,0,none⟩) Q Q,.int .i64 size] 197)) [setC (w.heap.size+1) w.heap.size size (List.replicate Q 0)]:=by
  refine ⟨hc1,λ i=>if i=w.heap.size\/i=w.heap.size+1 then 1 else 0,λ i hi=>?_,λ k c hk=>?_⟩
  ·by_cases e:i=w.heap.size\/i=w.heap.size+1
   ·exact ⟨λ h=>by omega,by simp;omega⟩
   ·dsimp only at hi;rw[if_neg e]at hi;exact absurd rfl hi
  ·match k,hk with
   | 0,hk=>
    injection hk with hk;subst hk;refine ⟨hnew,by simp,by simp,by omega,?_,?_⟩
    ·have:=World.alloc_heap_new (w.alloc (.cells (u64s (List.replicate Q 0)).toArray 263)) (.cells #[.slice (some ⟨w.heap.size,0,none⟩) Q Q,.int .i64 size] 197);rw[World.size_alloc]at this;rw[Qce];exact this
    ·exact (Below.heap_alloc _ _ _ (by simp)).trans (World.alloc_heap_new w _)
   | k+1,hk=>simp at hk
 generalize ((w.alloc (.cells (u64s (List.replicate Q 0)).toArray 263)).alloc (.cells #[.slice (some ⟨w.heap.size,0,none⟩) Q Q,.int .i64 size] 197))=w2 at hc1 st |-;refine Zi (Zqu (k:=0) st rfl hsz λ w' ws' s'=>hrd w' s'.chg) ?_;rintro _ w3 ⟨c,ws,rfl,hb,_,s3⟩;refine hR _ _ ⟨_,_,ws,rfl,λ m=>?_,s3⟩;rw[hb,Zhs];simp
theorem Zme (ws:List Nat):(u64s ws).length=ws.length:=by simp[u64s]
theorem Zun {G:Nat->Prop}{W w:World}{L:List Ch}{k b g size:Nat}{ws:List Nat}(s:St G W w L)(hk:L[k]?=some (setC b g size ws))(hsz:size<=1024)(hpos:0<size) :
  Ct Tryz.prog Zay.id #[.slice (some ⟨g,0,none⟩) ws.length ws.length] w λ v w'=>∃g' c',v = .slice (some ⟨g',0,none⟩) ws.length c'/\St G W w' (L++[rowC 263 1 (some ⟨g',0,none⟩) ws.length c' (u64s ws)]):=by
 refine Zay.ct λ R hR=>?_;obtain ⟨hok,_,_,hc,_⟩:=s.setAt k hk;have hl:=hok.len;have s1:=s.lit 263 1 0 #[] (by simp) (by simp);unfold Zay.run;simp -dsimp[go_sem];rw[Zfz 195 Zv9];simp -dsimp[go_sem];refine s1.appendN L.length (by simp;rfl) Zv9 iU64 rfl (by decide) (m:=ws.length) (news:=u64s ws) (by rw[Zme,Qb7]) (λ j u hj=>?_) (λ u hu=>?_) (by unfold maxLen;omega) (by unfold Zaf;omega) λ a' c' w' s2 hg=>?_
 ·unfold u64s at hj;rw[Qh]at hj
  cases hx:ws[j]? with
  | none=>rw[hx]at hj;cases hj
  | some x=>
   rw[hx]at hj;injection hj with hj;subst hj;rw[Addr.add_lit,Qa3,World.cell?_alloc_lt _ _ _ (World.block_lt_of_cell? _ _ (hc j x hx))];exact hc j x hx
 ·unfold u64s at hu;obtain ⟨x,_,rfl⟩:=Qr.1 hu;rfl
 ·obtain ⟨g',rfl⟩:=hg (by omega);rw[Qac _ _ (Ql _),Qam,Qcy,Qa3]at s2;rw[Qa3];exact hR _ _ ⟨g',c',rfl,s2⟩
attribute [-go_sem] Zcn.b1_1 Zcn.b2
theorem ZZ0 {G:Nat->Prop}{W w:World}{L:List Ch}{k b g size:Nat}{ws:List Nat}(s:St G W w L)(hk:L[k]?=some (setC b g size ws))(hsz:size<=1024)(hpos:0<size) :
  Ct Tryz.prog Zcn.id #[.pointer (some ⟨b,0,none⟩)] w λ v w'=>∃pc gc cc,v = .func (.func Zac.id) #[] #[.pointer (some ⟨pc,0,none⟩)]/\St G W w' (L++[boxC pc 195 [.slice (some ⟨gc,0,none⟩) ws.length cc],rowC 263 1 (some ⟨gc,0,none⟩) ws.length cc (u64s ws)]):=by
 refine Zcn.ct λ R hR=>?_;have hkl:=(Qa.1 hk).1;have s1:=s.alloc #[.slice none 0 0] 195;unfold Zcn.run;simp -dsimp[go_sem];generalize w.alloc (.cells #[.slice none 0 0] 195)=w1 at s1 |-;generalize w.heap.size=pc at s1 |-;have hk1:(L++[boxC pc 195 [Value.slice none 0 0]])[k]?=some (setC b g size ws):=by rw[Qf hkl];exact hk
 have s1:St G W w1 (L++[boxC pc 195 [Value.slice none 0 0]]):=s1;obtain ⟨hok,y0,_⟩:=s1.setAt k hk1;unfold Zcn.b1_1;simp -dsimp[go_sem,y0];refine Zi (Zun s1 hk1 hsz hpos) ?_;rintro _ w2 ⟨g',c',rfl,s2⟩;obtain ⟨z,zf,_⟩:=s2.box L.length (b:=pc) (t:=195) (cs:=[Value.slice none 0 0]) (by rw[Q5,Qi (Ql _),Qam];rfl);simp[Zw]at z;have zf0:=zf 0;have s3:=s2.set L.length (b:=pc) (t:=195) (cs:=[Value.slice none 0 0]) (by rw[Q5,Qi (Ql _),Qam];rfl) 0 (.slice (some ⟨g',0,none⟩) ws.length c');rw[Q5,Qac _ _ (Ql _),Qam]at s3;simp -dsimp[go_sem,z,zf0];unfold Zcn.b2;simp -dsimp[go_sem];exact hR _ _ ⟨pc,g',c',rfl,s3⟩
attribute [-go_sem] Zac.b6 Zac.b11_1 Zac.b11_2 Zac.b11_3 Zac.b11 Zac.b8
structure ItW (w:World)(pc gc cc:Nat)(ws:List Nat):Prop where
 pc:w.cell? ⟨pc,0,none⟩=some (.slice (some ⟨gc,0,none⟩) ws.length cc)
 gc:∀(j x:Nat),ws[j]?=some x->w.cell? ⟨gc,j,none⟩=some (.int .u64 x)
 deb:Deb w
theorem ItW.chg {F:Nat->Prop}{w w':World}{pc gc cc:Nat}{ws:List Nat}(h:ItW w pc gc cc ws)(hc:Chg F w w')(h1:¬F pc)(h2:¬F gc)(h3:¬F 0):ItW w' pc gc cc ws :=
 ⟨hc.at h.pc h1,λ j x hx=>hc.at (h.gc j x hx) h2,h.deb.chg hc h3⟩
theorem ZZ41 {α:Type}{a b c:List α}{x:α}(h:a++x::b=c):a++[x] <+: c:=⟨b,by simp[h]⟩
theorem Zqe {w0:World}{pc gc cc:Nat}{ws:List Nat}{M:Nat->Prop}(hI:ItW w0 pc gc cc ws)(h1:¬M pc)(h2:¬M gc)(h3:¬M 0)(hlt:∀x∈ws,x<2 ^ 64)(hlen:ws.length<=100) :
  SeqM Tryz.prog Zac.id #[.pointer (some ⟨pc,0,none⟩)] (λ x:Nat=>#[.int .i64 x]) M 0 (λ xs=>xs=memb ws) (λ _=>True) (λ pre=>pre <+: memb ws) w0:=by
 intro l J Jx W hW hJ hJx hY h0;have hIW:=hI.chg hW id id id;refine Calls.mono (R:=RT λ _ w'=>W.heap.size<=w'.heap.size/\(J (memb ws) w'\/∃pre,Jx pre w')) (Zac.ct λ R hR=>?_).2 ?_
 ·unfold Zac.run Zac.b1;simp -dsimp[go_sem,hIW.pc];refine Zac.l3_intro _ _ _ _ _ _ (λ y w'=>∃i:Nat,y = .int .i64 i/\i<=ws.length/\W.heap.size<=w'.heap.size/\ItW w' pc gc cc ws/\J (memb (ws.take i)) w') (λ y _=>ws.length-iv y)
   ⟨0,rfl,Qy _,Ql _,hIW,by simpa[memb]using h0⟩ ?_
  rintro _ w1 ⟨i,rfl,hi,hs1,hI1,hJ1⟩ C hC;have wi:=wS i (by omega);simp -dsimp[go_sem];refine Za (λ p1=>?_) (λ p1=>?_)<;>simp at p1
  ·have hxi:ws[i]?=some ws[i]:=Qb p1;have hxl:=hlt _ (Qj p1);obtain ⟨x,hx⟩:∃x,ws[i]=x:=⟨_,rfl⟩;rw[hx]at hxi hxl;have hg:=hI1.gc i x hxi;have hsucc:=Zwc ws i x hxi;unfold Zac.b8;simp -dsimp[go_sem,p1,hg];refine Zac.l10_intro _ _ _ _ _ _ _ (λ y w'=>∃(u:Nat) (pre:List Nat),y = .int .u64 u/\u<2 ^ 64/\W.heap.size<=w'.heap.size/\ItW w' pc gc cc ws/\J (memb (ws.take i)++pre) w'/\pre++wmem i u=wmem i x) (λ y _=>iv y)
    ⟨x,[],rfl,hxl,hs1,hI1,by simpa using hJ1,by simp⟩ ?_
   rintro _ w2 ⟨u,pre,rfl,hu,hs2,hI2,hJ2,hpre⟩ C2 hC2;unfold Zac.b11;by_cases hu0:u=0
   ·subst hu0;rw[Zv2,Qas]at hpre;subst hpre;simp -dsimp[go_sem];unfold Zac.b6;simp -dsimp[go_sem,wi];exact hC _ _ ⟨i+1,by simp,by omega,hs2,hI2,by rw[hsucc];exact hJ2⟩ (by simp[iv];omega)
   ·have e0:((u:Int) != 0)=true:=by simp[hu0]
    obtain ⟨hc64,_,_,_,hless⟩:=Ztm hu0 hu;rw[Zx0 i hu0 hu]at hpre;obtain ⟨c,hc⟩:∃c,Lib.ctz 64 u=c:=⟨_,rfl⟩;rw[hc]at hc64 hpre;have wm:IntKind.i64.wrap (64*(i:Int))=((64*i:Nat):Int):=by rw[show 64*(i:Int)=((64*i:Nat):Int) by omega];exact IntWalk.i64_in _ (by omega)
    have wa:IntKind.i64.wrap (64*(i:Int)+(c:Int))=64*(i:Int)+(c:Int):=IntWalk.i64_in _ (by omega);simp -dsimp[go_sem,e0];unfold Zac.b11_3;rw[Ur_eq];rw[show (bins .mul 3 (.const (Value.int .i64 64)) (.tmp 19) (Value.int .i64 64) (Value.int .i64 i)).run Tryz.prog w2 = .ok (.int .i64 ((64*i:Nat):Int)) w2 by simp -dsimp[go_sem,wm],Zb2];refine Zi (tz_ct hu hI2.deb) ?_;rintro _ _ ⟨rfl,rfl⟩;rw[hc];unfold Zac.b11_2;rw[Ur_eq];rw[show (bins .add 3 (.tmp 20) (.tmp 22) (Value.int .i64 ((64*i:Nat):Int)) (Value.int .i64 c)).run Tryz.prog w2 = .ok (.int .i64 ((64*i+c:Nat):Int)) w2 by simp -dsimp[go_sem,wa],Zb2];refine Zpj (hY (memb (ws.take i)++pre) (64*i+c) w2 (by omega) hJ2 ?_) ?_
    ·refine List.IsPrefix.trans ?_ (show memb (ws.take (i+1)) <+: memb ws from ?_)
     ·rw[hsucc,Q5];refine (List.prefix_append_right_inj _).2 ?_;exact ZZ41 hpre
     ·rw[Zjv _ _ (by omega)];unfold memb;have:List.range (64*ws.length)=List.range (64*(i+1))++(List.range (64*ws.length-64*(i+1))).map (64*(i+1)+·):=by
       rw[<-List.range_add];congr 1;omega
      rw[this,Qae];exact List.prefix_append _ _
    ·rintro _ w3 (⟨rfl,hJ3,hc3⟩|⟨rfl,hJ3,hc3⟩)
     ·refine ⟨_,rfl,?_⟩;have hI3:=hI2.chg hc3 (λ h=>h1 h.1) (λ h=>h2 h.1) (λ h=>h3 h.1);have hs3:=hc3.size;have hsub:IntKind.u64.wrap ((u:Int)-1)=((u-1:Nat):Int):=by rw[IntKind.wrap_u64];omega
      have hand:=u64_and_nat u (u-1) hu (by omega);simp -dsimp[go_sem];unfold Zac.b11_1;simp -dsimp[go_sem,hsub,hand];refine hC2 _ _ ⟨u &&& (u-1),pre++[64*i+c],rfl,by omega,by omega,hI3,by rw[<-Q5];exact hJ3,by rw[Q5];exact hpre⟩ (by simp[iv];exact hless)
     ·refine ⟨_,rfl,?_⟩;simp -dsimp[go_sem];have hs3:=hc3.size;exact hR _ _ ⟨by omega,Or.inr ⟨_,hJ3⟩⟩
  ·have:i=ws.length:=by omega
   subst this;rw[Qm]at hJ1;exact hR _ _ ⟨hs1,Or.inl hJ1⟩
 ·intro e w' he
  cases e with
  | returned v=>
   obtain ⟨h1,h2|⟨pre,h5⟩⟩:=he
   ·exact ⟨⟨v,rfl⟩,h1,Or.inl ⟨_,rfl,h2⟩⟩
   ·exact ⟨⟨v,rfl⟩,h1,Or.inr ⟨pre,trivial,h5⟩⟩
  | _=>exact he.elim
open Tryz Instr
namespace SqA
noncomputable def code:Code:=fstC (Zp f144)
def b1 (R:EP)(x0 x1:Value)(w:World)(_r:Tok R:=tok R):Prop :=
 RUN prog R (box 24 x0) w λ v1 w2=>
 R (.returned (.tuple #[x1,v1])) w2
abbrev q1 (R:EP):XP:=QX (λ z w=>R (.returned (.tuple #[z 1,z 2])) w) (λ z w=>R (.returned (.agg #[z 0])) w) []
theorem Zeb (R:EP):TI prog R code (q1 R) λ z w=>b1 R (z 0) (z 1) w:=ofT
abbrev run (R:EP)(x0 x1:Value)(w:World):Prop:=b1 R x0 x1 w
theorem part_wp {R:EP}{ρ:Env}{a:Act}{D:List Deferred}{w:World}(hr:Rel f144.ntmps a ρ D)(h:run R (ρ 0) (ρ 1) w):code.wp prog (post R f144.ntmps (q1 R) D) a w :=
 Zcu (by kernel_rfl) code (q1 R) ρ a w (by kernel_rfl) hr (Zeb R ρ w h)
attribute [irreducible,go_sem] b1
end SqA
namespace SqB
noncomputable def code:Code:=fstC (fstC (sndC (Zp f144)))
def b1 (R:EP)(x1 x2:Value)(w:World)(_r:Tok R:=tok R):Prop :=
 R (.returned (.tuple #[x1,x2,x1])) w
abbrev q1 (R:EP):XP:=QX (λ z w=>R (.returned (.tuple #[z 1,z 2,z 6])) w) (λ z w=>R (.returned (.agg #[z 0])) w) []
theorem Zeb (R:EP):TI prog R code (q1 R) λ z w=>b1 R (z 1) (z 2) w:=ofT
abbrev run (R:EP)(x1 x2:Value)(w:World):Prop:=b1 R x1 x2 w
theorem part_wp {R:EP}{ρ:Env}{a:Act}{D:List Deferred}{w:World}(hr:Rel f144.ntmps a ρ D)(h:run R (ρ 1) (ρ 2) w):code.wp prog (post R f144.ntmps (q1 R) D) a w :=
 Zcu (by kernel_rfl) code (q1 R) ρ a w (by kernel_rfl) hr (Zeb R ρ w h)
attribute [irreducible,go_sem] b1
end SqB
namespace SqC
noncomputable def code:Code:=fstC (sndC (sndC (Zp f144)))
def b1 (R:EP)(x2:Value)(w:World)(_r:Tok R:=tok R):Prop :=
 RUN prog R (loadAt 24 x2) w λ v1 w2=>
 R (.returned (.tuple #[v1])) w2
abbrev q1 (R:EP):XP:=QX (λ z w=>R (.returned (.tuple #[z 4])) w) (λ z w=>R (.returned (.agg #[z 0])) w) []
theorem Zeb (R:EP):TI prog R code (q1 R) λ z w=>b1 R (z 2) w:=ofT
abbrev run (R:EP)(x2:Value)(w:World):Prop:=b1 R x2 w
theorem part_wp {R:EP}{ρ:Env}{a:Act}{D:List Deferred}{w:World}(hr:Rel f144.ntmps a ρ D)(h:run R (ρ 2) w):code.wp prog (post R f144.ntmps (q1 R) D) a w :=
 Zcu (by kernel_rfl) code (q1 R) ρ a w (by kernel_rfl) hr (Zeb R ρ w h)
attribute [irreducible,go_sem] b1
end SqC
namespace SqAsg
noncomputable def code:Code:=rngA (blkC (sndC (fstC (sndC (Zp f144)))))
def b1 (R:EP)(x2 x7:Value)(w:World)(_r:Tok R:=tok R):Prop :=
 R (.returned (.tuple #[x2,x7])) w
abbrev q1 (R:EP):XP:=QX (λ z w=>R (.returned (.tuple #[z 2,z 5])) w) (λ z w=>R (.returned (.bool false)) w) []
theorem Zeb (R:EP):TI prog R code (q1 R) λ z w=>b1 R (z 2) (z 7) w:=ofT
abbrev run (R:EP)(x2 x7:Value)(w:World):Prop:=b1 R x2 x7 w
theorem body_wp {R:EP}{l:Nat}{ρ:Env}{a:Act}{w:World}(hr:Rel f144.ntmps a ρ)(h:run R (ρ 2) (ρ 7) w):code.wpIn (Fence.wide.inRound l) 0 prog (post R f144.ntmps (q1 R)) a w :=
 Zfh (by kernel_rfl) code (q1 R) ρ a w (λ _ _ h=>h) (by kernel_rfl) (by kernel_rfl) hr (Zeb R ρ w h)
attribute [irreducible,go_sem] b1
end SqAsg
namespace SqBody
noncomputable def code:Code:=rngB (blkC (sndC (fstC (sndC (Zp f144)))))
def b1 (R:EP)(x2 x5:Value)(w:World)(_r:Tok R:=tok R):Prop :=
 RUN prog R (loadAt 24 x2) w λ v1 w2=>
 RUN prog R (buildSlice 24 1 #[(0,x5)]) w2 λ v3 w4=>
 RUN prog R (Builtin.append_ #[24,24] 24 #[v1,v3]) w4 λ v5 w6=>
 RUNU prog R (storeAt 24 x2 v5) w6 λ w7=>
 R (.returned (.bool true)) w7
abbrev q1 (R:EP):XP:=QX (λ z w=>R (.returned (.bool true)) w) (λ z w=>R (.returned (.bool false)) w) []
theorem Zeb (R:EP):TI prog R code (q1 R) λ z w=>b1 R (z 2) (z 5) w:=ofT
abbrev run (R:EP)(x2 x5:Value)(w:World):Prop:=b1 R x2 x5 w
theorem body_wp {R:EP}{l:Nat}{ρ:Env}{a:Act}{w:World}(hr:Rel f144.ntmps a ρ)(h:run R (ρ 2) (ρ 5) w):code.wpIn (Fence.wide.inRound l) 0 prog (post R f144.ntmps (q1 R)) a w :=
 Zfh (by kernel_rfl) code (q1 R) ρ a w (λ _ _ h=>h) (by kernel_rfl) (by kernel_rfl) hr (Zeb R ρ w h)
attribute [irreducible,go_sem] b1
end SqBody
end Go.Proofs.YtjibcckpehdbhaaGreatDoor
namespace Go.Px
def natV (m:Nat):Value := .int .i64 (m:Int)
end Go.Px
namespace Go.Proofs.YtjibcckpehdbhaaGreatDoor
open Go.Px Go.Px.Scan Go.Px.Cn Go.RowKit
attribute [-go_sem] Builtin.append_
theorem Zpz:Zp Tryz.f144 = .seq SqA.code (.seq (.seq SqB.code (.block 0 (.rangeFunc (.tmp 6) #[7] SqAsg.code SqBody.code))) (.seq SqC.code .ret)):=by kernel_rfl
theorem Zzr:Tryz.f144.ntmps=13:=by kernel_rfl
def colL (q:Nat)(L:List Ch)(pre:List Nat)(L':List Ch):Prop:=∃A c,L'=boxC q 24 [.slice A pre.length c]::rowC 3 1 A pre.length c (pre.map natV)::L
theorem Zpr {G:Nat->Prop}{W w:World}{q m:Nat}{pre:List Nat}{L L':List Ch}{R:EP}(hL:colL q L pre L')(s:St G W w L')(hl:pre.length<=100000)
  (hR:∀w' L'',colL q L (pre++[m]) L''->St G W w' L''->R (.returned (.bool true)) w') :
  SqBody.b1 R (.pointer (some ⟨q,0,none⟩)) (natV m) w:=by
 obtain ⟨A,c,rfl⟩:=hL;obtain ⟨y,yf,_⟩:=s.box 0 rfl;simp[Zw]at y;unfold SqBody.b1;have e1:natV m = .int .i64 (m:Int):=rfl;rw[e1];simp -dsimp[go_sem,y];refine s.append1 1 rfl Zgn iInt rfl (by decide) (news:=[.int .i64 (m:Int)]) rfl (by simp[Value.oneCell']) (by unfold maxLen;omega) (by unfold Zaf;omega) ?_;intro g cap w2 s2;obtain ⟨z,zf,_⟩:=s2.box 0 rfl;simp[Zw]at z;have zf0:=zf 0;simp -dsimp[go_sem,z,zf0];have s3:=s2.set 0 rfl 0 (.slice (some ⟨g,0,none⟩) (pre.length+1) cap);refine hR _ _ ⟨some ⟨g,0,none⟩,cap,rfl⟩ ?_;rw[Qq,Qu];exact s3
theorem Zna {W w:World}{L:List Ch}{pc gc cc:Nat}{ws:List Nat}(s:St noB W w (L++[boxC pc 195 [.slice (some ⟨gc,0,none⟩) ws.length cc],rowC 263 1 (some ⟨gc,0,none⟩) ws.length cc (u64s ws)]))(hD:Deb W)(hlt:∀x∈ws,x<2 ^ 64)(hlen:ws.length<=100) :
  Ct Tryz.prog Zea.id #[.slice none 0 0,.func (.func Zac.id) #[] #[.pointer (some ⟨pc,0,none⟩)]] w λ v w'=>∃A c,v = .slice A (memb ws).length c/\St noB W w' (rowC 3 1 A (memb ws).length c ((memb ws).map natV)::L):=by
 refine Ct.intro (λ args w=>Tryz.call144 args w) λ R hR=>?_;refine callsIn_wide.1 (callsIn_of_wp_marks (n:=0) Tryz.func144 rfl trivial ?_ rfl);refine wpIn_wide.2 ?_
 show (Zp Tryz.f144).wp _ _ _ _
 rw[Zpz];obtain ⟨vf,hvf⟩:∃vf,Value.func (.func Zac.id) #[] #[.pointer (some ⟨pc,0,none⟩)]=vf:=⟨_,rfl⟩;have hr0:Rel Tryz.f144.ntmps {tmps:=#[.slice none 0 0,vf]++Array.replicate (Tryz.f144.ntmps-2) undef,defers:=[] } (λ n=>(#[.slice none 0 0,vf]++Array.replicate (Tryz.f144.ntmps-2) undef).getD n undef):=⟨by rw[Zzr];simp,λ _=>rfl,rfl⟩;rw[hvf];have hw0:(#[Value.slice none 0 0,vf]++Array.replicate (Tryz.f144.ntmps - #[Value.slice none 0 0,vf].size) undef)=(#[.slice none 0 0,vf]++Array.replicate (Tryz.f144.ntmps-2) undef):=rfl;rw[hw0];refine wp_seq (Zed (SqA.part_wp hr0 (R:=RS λ vs w'=>∃q,vs=#[vf,.pointer (some ⟨q,0,none⟩)]/\St noB W w' ((L++[boxC pc 195 [.slice (some ⟨gc,0,none⟩) ws.length cc],rowC 263 1 (some ⟨gc,0,none⟩) ws.length cc (u64s ws)])++[boxC q 24 [.slice none 0 0]])) ?_) ?_)
 ·show SqA.b1 _ (.slice none 0 0) vf w
  unfold SqA.b1;have s1:=s.alloc #[.slice none 0 0] 24;simp -dsimp[go_sem];exact ⟨_,rfl,by simpa using s1⟩
 rintro a1 ρ1 w1 r1 ⟨q,hv,s1⟩;injection hv with hv;injection hv with h11 hv;injection hv with h12 _;refine wp_seq (wp_seq (Zed (SqB.part_wp r1 (R:=RS λ vs w'=>vs=#[vf,.pointer (some ⟨q,0,none⟩),vf]/\w1=w') ?_) ?_))
 ·rw[h11,h12]
  show SqB.b1 _ _ _ _
  unfold SqB.b1;exact ⟨rfl,rfl⟩
 rintro a2 ρ2 w2 r2 ⟨hv,rfl⟩;injection hv with hv;injection hv with h21 hv;injection hv with h22 hv;injection hv with h26 _;have s2:=(s1.nilRow 3 1);rw[Q5]at s2;have s3:=s2.swap;have s4:St noB W w1 ((boxC q 24 [.slice none 0 0]::rowC 3 1 none 0 0 []::L)++[boxC pc 195 [.slice (some ⟨gc,0,none⟩) ws.length cc],rowC 263 1 (some ⟨gc,0,none⟩) ws.length cc (u64s ws)]):=by
  simpa using s3
 have hXs:∀i,(i=pc\/i=gc)->∃(k:Nat) (c:Ch),[boxC pc 195 [.slice (some ⟨gc,0,none⟩) ws.length cc],rowC 263 1 (some ⟨gc,0,none⟩) ws.length cc (u64s ws)][k]?=some c/\∀F:Nat->Prop,c.ok w1 F->F i:=by
  rintro i (rfl|rfl)
  ·exact ⟨0,_,rfl,λ F h=>h.1⟩
  ·exact ⟨1,_,rfl,λ F h=>h.2 _ rfl⟩
 have hav:=s4.avoid (X:=λ i=>i=pc\/i=gc) hXs;have hge:∀i,(i=pc\/i=gc)->W.heap.size<=i/\i<w1.heap.size:=λ i hi=>by
  obtain ⟨k,c,hk,hF⟩:=hXs i hi;obtain ⟨F,ho,hlt⟩:=s4.get (k:=(boxC q 24 [.slice none 0 0]::rowC 3 1 none 0 0 []::L).length+k) (c:=c) (by rw[Qi (by omega),Qa5];exact hk);have:=hlt i (hF F ho);exact ⟨Qc8 this.2,this.1⟩
 have hD1:Deb w1:=hD.chg s4.chg id;have h0W:0<W.heap.size:=World.block_lt_of_cell? W _ (hD 0 (by decide));obtain ⟨ypc,_,_⟩:=s4.box ((boxC q 24 [.slice none 0 0]::rowC 3 1 none 0 0 []::L).length) (b:=pc) (t:=195) (cs:=[.slice (some ⟨gc,0,none⟩) ws.length cc]) (by rw[Qi (Ql _),Qam];rfl);simp[Zw]at ypc;have hIW:ItW w1 pc gc cc ws:=⟨ypc,λ j x hx=>by
  have hjl:=(Qa.1 hx).1
  obtain ⟨g,eg,hc,_⟩:=s4.rowAt ((boxC q 24 [.slice none 0 0]::rowC 3 1 none 0 0 []::L).length+1) (e:=263) (size:=1) (a:=some ⟨gc,0,none⟩) (n:=ws.length) (c:=cc) (xs:=u64s ws) (by rw[Qi (by omega),Qa5];rfl) (j:=j) (by rw[Zme];exact hjl)
  injection eg with eg;injection eg with eg;subst eg
  rw[hc]
  simp only[u64s,Q8]
  rw[(Qa.1 hx).2],hD1⟩
 refine Zz4 (N:=Tryz.f144.ntmps) (encs:=natV) (X:=λ i=>i=pc\/i=gc) (W0:=W) r2 (lb:=#[.pointer (some ⟨pc,0,none⟩)]) ?_ (λ a w=>Tryz.call146 a w) (Zqe hIW (λ h=>h.2 (Or.inl rfl)) (λ h=>h.2 (Or.inr rfl)) (λ h=>by omega) hlt hlen)
  (λ i hi=>(hge i hi).2) (colL q L) (λ ρ x=>ρ 2 = .pointer (some ⟨q,0,none⟩)/\ρ 5=natV x) ⟨none,0,rfl⟩ s4.chg hav ?_ ?_ ?_
 ·show a2.tmps.getD 6 undef=_
  rw[r2.get 6,h26,<-hvf]
 ·intro l x W' K hK;refine Zoc (SqAsg.body_wp (ρ:=λ n=>(a2.tmps.setIfInBounds 7 (natV x)).getD n undef) ⟨by simpa using r2.size,λ _=>rfl,rfl⟩ (R:=RS λ vs w'=>vs=#[.pointer (some ⟨q,0,none⟩),natV x]/\W'=w') ?_) ?_
  ·have e2:(a2.tmps.setIfInBounds 7 (natV x)).getD 2 undef = .pointer (some ⟨q,0,none⟩):=by
    rw[<-h22,<-r2.get 2];simp[Q9]
   have e7:(a2.tmps.setIfInBounds 7 (natV x)).getD 7 undef=natV x:=by
    have:=r2.size;rw[Zzr]at this;rw[Q9];simp[this]
   show SqAsg.b1 _ ((a2.tmps.setIfInBounds 7 (natV x)).getD 2 undef) ((a2.tmps.setIfInBounds 7 (natV x)).getD 7 undef) W'
   rw[e2,e7];unfold SqAsg.b1;exact ⟨rfl,rfl⟩
  ·rintro a' ρ' w' hr' ⟨hv,rfl⟩;injection hv with hv;injection hv with hv2 hv;injection hv with hv5 _;exact hK a' ρ' hr' ⟨hv2,hv5⟩
 ·rintro l pre x a₁ ρ₁ W' L' hr' ⟨e2,e5⟩ hI hok hsz hcW hst;refine Zno (SqBody.body_wp hr' (R:=RB λ W''=>∃L'',colL q L (pre++[x]) L''/\St _ W' W'' L'') ?_) (λ a' w' h=>⟨rfl,h⟩);rw[e2,e5];have hpl:pre.length<=100000:=by
   have h1:=hok.length_le;have h2:(memb ws).length<=64*ws.length:=by
    unfold memb;have:=Qah (Bit ws) (List.range (64*ws.length));simpa using this
   simp at h1;omega
  exact Zpr hI hst hpl λ w' L'' h1 h2=>⟨L'',h1,h2⟩
 ·rintro w3 d xs L' rfl ⟨A,c,rfl⟩ s5;have r3:Rel Tryz.f144.ntmps {a2 with defers:={target := .collected d,args:=#[] }::a2.defers } ρ2 [{target := .collected d,args:=#[] }]:=⟨r2.size,r2.get,by show _::a2.defers=_;rw[r2.defers]⟩
  show (Code.seq SqC.code .ret).wp _ _ _ _
  refine wp_seq (Zed (SqC.part_wp r3 (R:=RS λ vs w'=>vs=#[.slice A (memb ws).length c]/\w3=w') ?_) ?_)
  ·rw[h22];obtain ⟨y,_,_⟩:=s5.box 0 rfl;simp[Zw]at y
   show SqC.b1 _ _ _
   unfold SqC.b1;simp -dsimp[go_sem,y];exact ⟨rfl,rfl⟩
  rintro a4 ρ4 w4 r4 ⟨hv,rfl⟩;injection hv with hv;injection hv with h44 _;refine wp_ret (Zq5 r4 (t:=4) rfl h44 s5 λ w' s'=>hR _ _ ⟨A,c,rfl,?_⟩);have:=s'.pick (List.range' 1 (L.length+1)) Qdm (L':=rowC 3 1 A (memb ws).length c ((memb ws).map natV)::L) ?_
  ·exact this
  ·refine Qaw λ i=>?_;rw[Qh,Qh];by_cases hi:i<L.length+1
   ·rw[Qc9 hi];simp only[Qbx,Qcr];rw[Nat.add_comm 1 i,Qbq,Qb (show i<(rowC 3 1 A (memb ws).length c ((memb ws).map natV)::L).length by simpa using hi)];rfl
   ·rw[Qx (by simp;omega),Qx (by simp;omega)];rfl
theorem Zla {W w:World}{L:List Ch}{k b g size:Nat}{ws:List Nat}(s:St noB W w L)(hk:L[k]?=some (setC b g size ws))(hsz:size<=1024)(hpos:0<size)(hD:Deb W) :
  Ct Tryz.prog Zce.id #[.pointer (some ⟨b,0,none⟩)] w λ v w'=>∃A c,v = .slice A (memb ws).length c/\St noB W w' (rowC 3 1 A (memb ws).length c ((memb ws).map natV)::L):=by
 refine Zce.ct λ R hR=>?_;obtain ⟨hok,_⟩:=s.setAt k hk;have hl:=hok.len;unfold Zce.run Zce.b1;refine Zi (ZZ0 s hk hsz hpos) ?_;rintro _ w1 ⟨pc,gc,cc,rfl,s1⟩;refine Zi (S:=λ v w'=>∃A c,v = .slice A (memb ws).length c/\St noB W w' (rowC 3 1 A (memb ws).length c ((memb ws).map natV)::L)) (Zcr.ct λ R' hR'=>?_) ?_
 ·unfold Zcr.run Zcr.b1;refine Zi (Zna s1 hD hok.lt (by omega)) ?_;exact λ v w' h=>hR' v w' h
 ·exact λ v w' h=>hR v w' h
open Tryz Instr
namespace UnA
noncomputable def code:Code:=fstC (Zp f217)
def b1 (R:EP)(x0 x1:Value)(w:World)(_r:Tok R:=tok R):Prop :=
 RUN prog R (box 74 x0) w λ v1 w2=>
 R (.returned (.tuple #[x1,v1])) w2
abbrev q1 (R:EP):XP:=QX (λ z w=>R (.returned (.tuple #[z 1,z 2])) w) (λ z w=>R (.returned (.agg #[z 0])) w) []
theorem Zeb (R:EP):TI prog R code (q1 R) λ z w=>b1 R (z 0) (z 1) w:=ofT
abbrev run (R:EP)(x0 x1:Value)(w:World):Prop:=b1 R x0 x1 w
theorem part_wp {R:EP}{ρ:Env}{a:Act}{D:List Deferred}{w:World}(hr:Rel f217.ntmps a ρ D)(h:run R (ρ 0) (ρ 1) w):code.wp prog (post R f217.ntmps (q1 R) D) a w :=
 Zcu (by kernel_rfl) code (q1 R) ρ a w (by kernel_rfl) hr (Zeb R ρ w h)
attribute [irreducible,go_sem] b1
end UnA
namespace UnB
noncomputable def code:Code:=fstC (sndC (Zp f217))
def b1 (R:EP)(x1 x2:Value)(w:World)(_r:Tok R:=tok R):Prop :=
 RUN prog R (alloc 3 true (.tuple #[])) w λ v1 w2=>
 RUNU prog R (storeAt 3 v1 (Value.int .i64 0)) w2 λ w3=>
 R (.returned (.tuple #[x1,x2,v1])) w3
abbrev q1 (R:EP):XP:=QX (λ z w=>R (.returned (.tuple #[z 1,z 2,z 5])) w) (λ z w=>R (.returned (.agg #[z 0])) w) []
theorem Zeb (R:EP):TI prog R code (q1 R) λ z w=>b1 R (z 1) (z 2) w:=ofT
abbrev run (R:EP)(x1 x2:Value)(w:World):Prop:=b1 R x1 x2 w
theorem part_wp {R:EP}{ρ:Env}{a:Act}{D:List Deferred}{w:World}(hr:Rel f217.ntmps a ρ D)(h:run R (ρ 1) (ρ 2) w):code.wp prog (post R f217.ntmps (q1 R) D) a w :=
 Zcu (by kernel_rfl) code (q1 R) ρ a w (by kernel_rfl) hr (Zeb R ρ w h)
attribute [irreducible,go_sem] b1
end UnB
namespace UnC
noncomputable def code:Code:=fstC (fstC (sndC (sndC (Zp f217))))
def b1 (R:EP)(x1 x2 x5:Value)(w:World)(_r:Tok R:=tok R):Prop :=
 RUN prog R (Builtin.len_ #[158] 3 #[x1]) w λ v1 w2=>
 R (.returned (.tuple #[x2,x5,x1,v1,(Value.int .i64 0)])) w2
abbrev q1 (R:EP):XP:=QX (λ z w=>R (.returned (.tuple #[z 2,z 5,z 9,z 10,z 11])) w) (λ z w=>R (.returned (.agg #[z 0])) w) []
theorem Zeb (R:EP):TI prog R code (q1 R) λ z w=>b1 R (z 1) (z 2) (z 5) w:=ofT
abbrev run (R:EP)(x1 x2 x5:Value)(w:World):Prop:=b1 R x1 x2 x5 w
theorem part_wp {R:EP}{ρ:Env}{a:Act}{D:List Deferred}{w:World}(hr:Rel f217.ntmps a ρ D)(h:run R (ρ 1) (ρ 2) (ρ 5) w):code.wp prog (post R f217.ntmps (q1 R) D) a w :=
 Zcu (by kernel_rfl) code (q1 R) ρ a w (by kernel_rfl) hr (Zeb R ρ w h)
attribute [irreducible,go_sem] b1
end UnC
namespace UnD
noncomputable def code:Code:=fstC (Zez (blkC (sndC (fstC (sndC (sndC (Zp f217)))))))
def b1 (R:EP)(x2 x5 x9 x10 x11:Value)(w:World)(_r:Tok R:=tok R):Prop :=
 RUN prog R (bins .lss 3 (.tmp 11) (.tmp 10) x11 x10) w λ v1 w2=>
 R (.returned (.tuple #[x2,x5,x9,x10,x11,v1])) w2
abbrev q1 (R:EP):XP:=QX (λ z w=>R (.returned (.tuple #[z 2,z 5,z 9,z 10,z 11,z 12])) w) (λ z w=>R (.returned (.agg #[z 0])) w) []
theorem Zeb (R:EP):TI prog R code (q1 R) λ z w=>b1 R (z 2) (z 5) (z 9) (z 10) (z 11) w:=ofT
abbrev run (R:EP)(x2 x5 x9 x10 x11:Value)(w:World):Prop:=b1 R x2 x5 x9 x10 x11 w
theorem part_wp {R:EP}{ρ:Env}{a:Act}{D:List Deferred}{w:World}(hr:Rel f217.ntmps a ρ D)(h:run R (ρ 2) (ρ 5) (ρ 9) (ρ 10) (ρ 11) w):code.wp prog (post R f217.ntmps (q1 R) D) a w :=
 Zcu (by kernel_rfl) code (q1 R) ρ a w (by kernel_rfl) hr (Zeb R ρ w h)
attribute [irreducible,go_sem] b1
end UnD
namespace UnE
noncomputable def code:Code:=fstC (blkC (fstC (sndC (sndC (Zez (blkC (sndC (fstC (sndC (sndC (Zp f217)))))))))))
def b1 (R:EP)(x2 x5 x9 x10 x11:Value)(w:World)(_r:Tok R:=tok R):Prop :=
 RUN prog R (indexAt 158 x9 x11) w λ v1 w2=>
 RUN prog R (loadAt 74 v1) w2 λ v3 w4=>
 R (.returned (.tuple #[x2,x5,v3,x9,x10,x11])) w4
abbrev q1 (R:EP):XP:=QX (λ z w=>R (.returned (.tuple #[z 2,z 5,z 7,z 9,z 10,z 11])) w) (λ z w=>R (.returned (.agg #[z 0])) w) []
theorem Zeb (R:EP):TI prog R code (q1 R) λ z w=>b1 R (z 2) (z 5) (z 9) (z 10) (z 11) w:=ofT
abbrev run (R:EP)(x2 x5 x9 x10 x11:Value)(w:World):Prop:=b1 R x2 x5 x9 x10 x11 w
theorem part_wp {R:EP}{ρ:Env}{a:Act}{D:List Deferred}{w:World}(hr:Rel f217.ntmps a ρ D)(h:run R (ρ 2) (ρ 5) (ρ 9) (ρ 10) (ρ 11) w):code.wp prog (post R f217.ntmps (q1 R) D) a w :=
 Zcu (by kernel_rfl) code (q1 R) ρ a w (by kernel_rfl) hr (Zeb R ρ w h)
attribute [irreducible,go_sem] b1
end UnE
namespace UnF
noncomputable def code:Code:=fstC (sndC (blkC (fstC (sndC (sndC (Zez (blkC (sndC (fstC (sndC (sndC (Zp f217))))))))))))
def b1 (R:EP)(x2 x5 x7 x9 x10 x11:Value)(w:World)(_r:Tok R:=tok R):Prop :=
 CALL prog R Zcn.id #[x7] w λ v1 w2=>
 R (.returned (.tuple #[x2,x5,x9,x10,x11,v1])) w2
abbrev q1 (R:EP):XP:=QX (λ z w=>R (.returned (.tuple #[z 2,z 5,z 9,z 10,z 11,z 16])) w) (λ z w=>R (.returned (.agg #[z 0])) w) []
theorem Zeb (R:EP):TI prog R code (q1 R) λ z w=>b1 R (z 2) (z 5) (z 7) (z 9) (z 10) (z 11) w:=ofT
abbrev run (R:EP)(x2 x5 x7 x9 x10 x11:Value)(w:World):Prop:=b1 R x2 x5 x7 x9 x10 x11 w
theorem part_wp {R:EP}{ρ:Env}{a:Act}{D:List Deferred}{w:World}(hr:Rel f217.ntmps a ρ D)(h:run R (ρ 2) (ρ 5) (ρ 7) (ρ 9) (ρ 10) (ρ 11) w):code.wp prog (post R f217.ntmps (q1 R) D) a w :=
 Zcu (by kernel_rfl) code (q1 R) ρ a w (by kernel_rfl) hr (Zeb R ρ w h)
attribute [irreducible,go_sem] b1
end UnF
namespace UnAsg
noncomputable def code:Code:=rngA (blkC (sndC (sndC (blkC (fstC (sndC (sndC (Zez (blkC (sndC (fstC (sndC (sndC (Zp f217))))))))))))))
def b1 (R:EP)(x2 x5 x17:Value)(w:World)(_r:Tok R:=tok R):Prop :=
 R (.returned (.tuple #[x2,x5,x17])) w
abbrev q1 (R:EP):XP:=QX (λ z w=>R (.returned (.tuple #[z 2,z 5,z 8])) w) (λ z w=>R (.returned (.bool false)) w) []
theorem Zeb (R:EP):TI prog R code (q1 R) λ z w=>b1 R (z 2) (z 5) (z 17) w:=ofT
abbrev run (R:EP)(x2 x5 x17:Value)(w:World):Prop:=b1 R x2 x5 x17 w
theorem body_wp {R:EP}{l:Nat}{ρ:Env}{a:Act}{w:World}(hr:Rel f217.ntmps a ρ)(h:run R (ρ 2) (ρ 5) (ρ 17) w):code.wpIn (Fence.wide.inRound l) 0 prog (post R f217.ntmps (q1 R)) a w :=
 Zfh (by kernel_rfl) code (q1 R) ρ a w (λ _ _ h=>h) (by kernel_rfl) (by kernel_rfl) hr (Zeb R ρ w h)
attribute [irreducible,go_sem] b1
end UnAsg
namespace UnH
noncomputable def code:Code:=fstC (sndC (sndC (sndC (Zp f217))))
def b1 (R:EP)(x5:Value)(w:World)(_r:Tok R:=tok R):Prop :=
 RUN prog R (loadAt 3 x5) w λ v1 w2=>
 R (.returned (.tuple #[v1])) w2
abbrev q1 (R:EP):XP:=QX (λ z w=>R (.returned (.tuple #[z 4])) w) (λ z w=>R (.returned (.agg #[z 0])) w) []
theorem Zeb (R:EP):TI prog R code (q1 R) λ z w=>b1 R (z 5) w:=ofT
abbrev run (R:EP)(x5:Value)(w:World):Prop:=b1 R x5 w
theorem part_wp {R:EP}{ρ:Env}{a:Act}{D:List Deferred}{w:World}(hr:Rel f217.ntmps a ρ D)(h:run R (ρ 5) w):code.wp prog (post R f217.ntmps (q1 R) D) a w :=
 Zcu (by kernel_rfl) code (q1 R) ρ a w (by kernel_rfl) hr (Zeb R ρ w h)
attribute [irreducible,go_sem] b1
end UnH
namespace UnI
noncomputable def code:Code:=sndC (sndC (sndC (Zez (blkC (sndC (fstC (sndC (sndC (Zp f217)))))))))
def b1 (R:EP)(x2 x5 x9 x10 x11:Value)(w:World)(_r:Tok R:=tok R):Prop :=
 RUN prog R (bins .add 3 (.tmp 11) (.const (Value.int .i64 1)) x11 (Value.int .i64 1)) w λ v1 w2=>
 R (.returned (.tuple #[x2,x5,x9,x10,v1])) w2
abbrev q1 (R:EP):XP:=QX (λ z w=>R (.returned (.tuple #[z 2,z 5,z 9,z 10,z 11])) w) (λ z w=>R (.returned (.agg #[z 0])) w) []
theorem Zeb (R:EP):TI prog R code (q1 R) λ z w=>b1 R (z 2) (z 5) (z 9) (z 10) (z 11) w:=ofT
abbrev run (R:EP)(x2 x5 x9 x10 x11:Value)(w:World):Prop:=b1 R x2 x5 x9 x10 x11 w
theorem part_wp {R:EP}{ρ:Env}{a:Act}{D:List Deferred}{w:World}(hr:Rel f217.ntmps a ρ D)(h:run R (ρ 2) (ρ 5) (ρ 9) (ρ 10) (ρ 11) w):code.wp prog (post R f217.ntmps (q1 R) D) a w :=
 Zcu (by kernel_rfl) code (q1 R) ρ a w (by kernel_rfl) hr (Zeb R ρ w h)
attribute [irreducible,go_sem] b1
end UnI
namespace UnBody
noncomputable def code:Code:=rngB (blkC (sndC (sndC (blkC (fstC (sndC (sndC (Zez (blkC (sndC (fstC (sndC (sndC (Zp f217))))))))))))))
def b1_1 (R:EP)(x5 v1 v5:Value)(w6:World)(_r:Tok R:=tok R):Prop :=
 Sem.run prog (loadAt 3 x5) w6 = .ok v1 w6/\(PUR prog (bins .add 3 (.tmp 18) (.tmp 22) v1 v5) λ v7=>
 RUNU prog R (storeAt 3 x5 v7) w6 λ w8=>
 R (.returned (.bool true)) w8)
def b1 (R:EP)(x2 x5 x8:Value)(w:World)(_r:Tok R:=tok R):Prop :=
 LD prog (loadAt 3 x5) (World.drew w) λ v1=>
 LD prog (loadAt 74 x2) (World.drew w) λ v2=>
 RUN prog R (buildSlice 24 1 #[(0,x8)]) (World.drew w) λ v3 w4=>
 Sem.run prog (loadAt 74 x2) w4 = .ok v2 w4/\(Sem.run prog (loadAt 3 x5) w4 = .ok v1 w4/\(CALL prog R Zai.id #[v2,v3] w4 λ v5 w6=>
 b1_1 R x5 v1 v5 w6))
abbrev q1 (R:EP):XP:=QX (λ z w=>R (.returned (.bool true)) w) (λ z w=>R (.returned (.bool false)) w) []
theorem Zeb (R:EP):TI prog R code (q1 R) λ z w=>b1 R (z 2) (z 5) (z 8) w:=ofT
abbrev run (R:EP)(x2 x5 x8:Value)(w:World):Prop:=b1 R x2 x5 x8 w
theorem body_wp {R:EP}{l:Nat}{ρ:Env}{a:Act}{w:World}(hr:Rel f217.ntmps a ρ)(h:run R (ρ 2) (ρ 5) (ρ 8) w):code.wpIn (Fence.wide.inRound l) 0 prog (post R f217.ntmps (q1 R)) a w :=
 Zfh (by kernel_rfl) code (q1 R) ρ a w (λ _ _ h=>h) (by kernel_rfl) (by kernel_rfl) hr (Zeb R ρ w h)
attribute [irreducible,go_sem] b1_1 b1
end UnBody
noncomputable def unRF:Code := .rangeFunc (.tmp 16) #[17] UnAsg.code UnBody.code
noncomputable def ZZ187:Code := .seq UnD.code (.seq (.cond (.tmp 12) .skip (.exit 0)) (.seq (.block 1 (.seq UnE.code (.seq UnF.code (.block 2 unRF)))) UnI.code))
theorem Zrw:Zp Tryz.f217 = .seq UnA.code (.seq UnB.code (.seq (.seq UnC.code (.block 0 (.loop ZZ187))) (.seq UnH.code .ret))):=by kernel_rfl
theorem un_nt:Tryz.f217.ntmps=26:=by kernel_rfl
structure UnOk (size:Nat)(ws ws':List Nat)(pre:List Nat)(c:Nat):Prop where
 bit:∀m:Nat,Bit ws' m=true↔Bit ws m=true\/(m∈pre/\m<size)
 free:Zgm ws' size+c=Zgm ws size
def unL (L:List Ch)(k b g size:Nat)(ws:List Nat)(q2 q5:Nat)(pre:List Nat)(L':List Ch):Prop :=
 ∃c ws',UnOk size ws ws' pre c/\L'=boxC q2 74 [.pointer (some ⟨b,0,none⟩)]::boxC q5 3 [.int .i64 (c:Int)]::L.set k (setC b g size ws')
theorem Zzu {w:World}{ob:Nat}{x:Int}(h:w.cell? ⟨ob,0,none⟩=some (.int .i64 x))(hx:Zdf x):(Zq rInt).at1 w w.heap.size (.slice (some ⟨ob,0,none⟩) 1 1) [x]:=by
 refine ⟨some ⟨ob,0,none⟩,1,rfl,Ql _,by decide,trivial,λ _=>⟨ob,0,rfl,World.block_lt_of_cell? w _ h,λ i y hi=>?_⟩⟩
 match i,hi with
 | 0,hi=>
  injection hi with hi;subst hi;refine ⟨[.int .i64 x],⟨rfl,hx⟩,λ j u hj=>?_⟩
  match j,hj with
  | 0,hj=>injection hj with hj;subst hj;exact h
  | j+1,hj=>simp at hj
 | i+1,hi=>simp at hi
theorem Zsi {G:Nat->Prop}{W w:World}{L L':List Ch}{k b g size q2 q5 m:Nat}{ws pre:List Nat}{R:EP}(hk:L[k]?=some (setC b g size ws))(hL:unL L k b g size ws q2 q5 pre L')(hsz:size<=1024)(hm:m<100000)(s:St G W w L')
  (hR:∀w' L'',unL L k b g size ws q2 q5 (pre++[m]) L''->St G W w' L''->R (.returned (.bool true)) w') :
  UnBody.b1 R (.pointer (some ⟨q2,0,none⟩)) (.pointer (some ⟨q5,0,none⟩)) (natV m) w:=by
 obtain ⟨c,ws',hok,rfl⟩:=hL;have hkl:=(Qa.1 hk).1;have hfl:=Zl9 ws size;have hfr:=hok.free;obtain ⟨x2,_,l2⟩:=s.box 0 rfl;obtain ⟨x5,_,l5⟩:=s.box 1 rfl;simp[Zw]at x2 x5;unfold UnBody.b1;have e1:natV m = .int .i64 (m:Int):=rfl;rw[e1];simp -dsimp[go_sem,x2,x5,l2,l5];have s1:St G W (w.alloc (.cells #[.int .i64 (m:Int)] 3)).drew ((boxC q2 74 [.pointer (some ⟨b,0,none⟩)]::boxC q5 3 [.int .i64 (c:Int)]::L.set k (setC b g size ws'))++[boxC w.heap.size 3 [.int .i64 (m:Int)]]):=(s.alloc #[.int .i64 (m:Int)] 3).old (Chg.refl noB _).drew;generalize (w.alloc (.cells #[.int .i64 (m:Int)] 3)).drew=w1 at s1 |-;generalize w.heap.size=ob at s1 |-;have hkS:((boxC q2 74 [.pointer (some ⟨b,0,none⟩)]::boxC q5 3 [.int .i64 (c:Int)]::L.set k (setC b g size ws'))++[boxC ob 3 [.int .i64 (m:Int)]])[k+2]?=some (setC b g size ws'):=by
  rw[Qf (by simp;omega)];simp[hkl]
 have hset:∀ws'',((boxC q2 74 [.pointer (some ⟨b,0,none⟩)]::boxC q5 3 [.int .i64 (c:Int)]::L.set k (setC b g size ws'))++[boxC ob 3 [.int .i64 (m:Int)]]).set (k+2) (setC b g size ws'')=(boxC q2 74 [.pointer (some ⟨b,0,none⟩)]::boxC q5 3 [.int .i64 (c:Int)]::L.set k (setC b g size ws''))++[boxC ob 3 [.int .i64 (m:Int)]]:=λ ws''=>by
  rw[Qdb _ _ (by simp;omega)];simp
 refine Zi (Zqu (ms:=[(m:Int)]) s1 hkS hsz λ w' ws'' s'=>?_) ?_
 ·rw[hset]at s';obtain ⟨y,_,_⟩:=s'.box (L.length+2) (b:=ob) (t:=3) (cs:=[.int .i64 (m:Int)]) (by rw[Qi (by simp)];simp);simp[Zw]at y;exact Zzu y ⟨by omega,by omega⟩
 rintro _ w2 ⟨c2,ws2,rfl,hb2,hf2,s2⟩;rw[hset]at s2;obtain ⟨y5,yf5,_⟩:=s2.box 1 rfl;simp[Zw]at y5;have f5:=yf5 0;have wc:IntKind.i64.wrap ((c:Int)+(c2:Int))=(c:Int)+(c2:Int):=IntWalk.i64_in _ (by omega);unfold UnBody.b1_1;simp -dsimp[go_sem,y5,f5,wc];have s3:=s2.set 1 rfl 0 (.int .i64 ((c:Int)+(c2:Int)));refine hR _ _ ⟨c+c2,ws2,⟨λ n=>?_,by omega⟩,rfl⟩ ?_
 ·rw[hb2,hok.bit,Qk,Qg,Qg];constructor
  ·rintro ((h|⟨h1,h2⟩)|⟨h1,h2⟩)
   ·exact Or.inl h
   ·exact Or.inr ⟨Or.inl h1,h2⟩
   ·exact Or.inr ⟨Or.inr (by omega),h2⟩
  ·rintro (h|⟨h1|h1,h2⟩)
   ·exact Or.inl (Or.inl h)
   ·exact Or.inl (Or.inr ⟨h1,h2⟩)
   ·exact Or.inr ⟨by omega,h2⟩
 ·have:=s3.take (L.length+2);simpa using this
section
variable {W:World} {L:List Ch} {k k2 ko b g b2 g2 ob size size2:Nat} {ws ws2:List Nat}
theorem Zys {w:World}{a:Act}{ρ:Env}{q2 q5 pc gc cc:Nat}{Q:Exit->Act->World->Prop}(hk:L[k]?=some (setC b g size ws))(hsz:size<=1024)(hlt:∀x∈ws2,x<2 ^ 64)(hlen:ws2.length<=100)(hD:Deb W)
  (hr:Rel Tryz.f217.ntmps a ρ) (e2:ρ 2 = .pointer (some ⟨q2,0,none⟩)) (e5:ρ 5 = .pointer (some ⟨q5,0,none⟩)) (e16:ρ 16 = .func (.func Zac.id) #[] #[.pointer (some ⟨pc,0,none⟩)])
  (s:St noB W w ((boxC q2 74 [.pointer (some ⟨b,0,none⟩)]::boxC q5 3 [.int .i64 0]::L)++[boxC pc 195 [.slice (some ⟨gc,0,none⟩) ws2.length cc],rowC 263 1 (some ⟨gc,0,none⟩) ws2.length cc (u64s ws2)]))
  (hQ:∀w' d c ws',UnOk size ws ws' (memb ws2) c->St noB W w' ((boxC q2 74 [.pointer (some ⟨b,0,none⟩)]::boxC q5 3 [.int .i64 (c:Int)]::L.set k (setC b g size ws'))++[Zpq d])->Q .normal {a with defers:={target := .collected d,args:=#[] }::a.defers } w') :
  (Code.block 2 unRF).wp Tryz.prog Q a w:=by
 have hXs:∀i,(i=pc\/i=gc)->∃(k:Nat) (c:Ch),[boxC pc 195 [.slice (some ⟨gc,0,none⟩) ws2.length cc],rowC 263 1 (some ⟨gc,0,none⟩) ws2.length cc (u64s ws2)][k]?=some c/\∀F:Nat->Prop,c.ok w F->F i:=by
  rintro i (rfl|rfl)
  ·exact ⟨0,_,rfl,λ F h=>h.1⟩
  ·exact ⟨1,_,rfl,λ F h=>h.2 _ rfl⟩
 have hav:=s.avoid (X:=λ i=>i=pc\/i=gc) hXs;have hge:∀i,(i=pc\/i=gc)->W.heap.size<=i/\i<w.heap.size:=λ i hi=>by
  obtain ⟨k,c,hk,hF⟩:=hXs i hi;obtain ⟨F,ho,hlt⟩:=s.get (k:=(boxC q2 74 [.pointer (some ⟨b,0,none⟩)]::boxC q5 3 [.int .i64 0]::L).length+k) (c:=c) (by rw[Qi (by omega),Qa5];exact hk);have:=hlt i (hF F ho);exact ⟨Qc8 this.2,this.1⟩
 have hD1:Deb w:=hD.chg s.chg id;have h0W:0<W.heap.size:=World.block_lt_of_cell? W _ (hD 0 (by decide));obtain ⟨ypc,_,_⟩:=s.box ((boxC q2 74 [.pointer (some ⟨b,0,none⟩)]::boxC q5 3 [.int .i64 0]::L).length) (b:=pc) (t:=195) (cs:=[.slice (some ⟨gc,0,none⟩) ws2.length cc]) (by rw[Qi (Ql _),Qam];rfl);simp[Zw]at ypc;have hIW:ItW w pc gc cc ws2:=⟨ypc,λ j x hx=>by
  have hjl:=(Qa.1 hx).1
  obtain ⟨g,eg,hc,_⟩:=s.rowAt ((boxC q2 74 [.pointer (some ⟨b,0,none⟩)]::boxC q5 3 [.int .i64 0]::L).length+1) (e:=263) (size:=1) (a:=some ⟨gc,0,none⟩) (n:=ws2.length) (c:=cc) (xs:=u64s ws2) (by rw[Qi (by omega),Qa5];rfl) (j:=j) (by rw[Zme];exact hjl)
  injection eg with eg;injection eg with eg;subst eg
  rw[hc]
  simp only[u64s,Q8]
  rw[(Qa.1 hx).2],hD1⟩
 have hLk:L.set k (setC b g size ws)=L:=by
  have hkl:=(Qa.1 hk).1;rw[<-(Qa.1 hk).2,Qai]
 refine Zz4 (N:=Tryz.f217.ntmps) (encs:=natV) (X:=λ i=>i=pc\/i=gc) (W0:=W) hr (lb:=#[.pointer (some ⟨pc,0,none⟩)]) ?_ (λ a w=>Tryz.call146 a w) (Zqe hIW (λ h=>h.2 (Or.inl rfl)) (λ h=>h.2 (Or.inr rfl)) (λ h=>by omega) hlt hlen)
  (λ i hi=>(hge i hi).2) (unL L k b g size ws q2 q5) (λ ρ x=>ρ 2 = .pointer (some ⟨q2,0,none⟩)/\ρ 5 = .pointer (some ⟨q5,0,none⟩)/\ρ 8=natV x) ⟨0,ws,⟨λ m=>by simp,rfl⟩,by rw[hLk];rfl⟩ s.chg hav ?_ ?_ ?_
 ·show a.tmps.getD 16 undef=_
  rw[hr.get 16,e16]
 ·intro l x W' K hK;refine Zoc (UnAsg.body_wp (ρ:=λ n=>(a.tmps.setIfInBounds 17 (natV x)).getD n undef) ⟨by simpa using hr.size,λ _=>rfl,rfl⟩ (R:=RS λ vs w'=>vs=#[.pointer (some ⟨q2,0,none⟩),.pointer (some ⟨q5,0,none⟩),natV x]/\W'=w') ?_) ?_
  ·have e2':(a.tmps.setIfInBounds 17 (natV x)).getD 2 undef = .pointer (some ⟨q2,0,none⟩):=by
    rw[<-e2,<-hr.get 2];simp[Q9]
   have e5':(a.tmps.setIfInBounds 17 (natV x)).getD 5 undef = .pointer (some ⟨q5,0,none⟩):=by
    rw[<-e5,<-hr.get 5];simp[Q9]
   have e7:(a.tmps.setIfInBounds 17 (natV x)).getD 17 undef=natV x:=by
    have:=hr.size;rw[un_nt]at this;rw[Q9];simp[this]
   show UnAsg.b1 _ ((a.tmps.setIfInBounds 17 (natV x)).getD 2 undef) ((a.tmps.setIfInBounds 17 (natV x)).getD 5 undef) ((a.tmps.setIfInBounds 17 (natV x)).getD 17 undef) W'
   rw[e2',e5',e7];unfold UnAsg.b1;exact ⟨rfl,rfl⟩
  ·rintro a' ρ' w' hr' ⟨hv,rfl⟩;injection hv with hv;injection hv with hv2 hv;injection hv with hv5 hv;injection hv with hv8 _;exact hK a' ρ' hr' ⟨hv2,hv5,hv8⟩
 ·rintro l pre x a₁ ρ₁ W' L' hr' ⟨f2,f5,f8⟩ hI hok hszw hcW hst;refine Zno (UnBody.body_wp hr' (R:=RB λ W''=>∃L'',unL L k b g size ws q2 q5 (pre++[x]) L''/\St _ W' W'' L'') ?_) (λ a' w' h=>⟨rfl,h⟩);rw[f2,f5,f8];have hx:x<100000:=by
   have h1:x∈memb ws2:=hok.subset (by simp);unfold memb at h1;have:=(Qz.1 h1).1;simp at this;omega
  exact Zsi hk hI hsz hx hst λ w' L'' h1 h2=>⟨L'',h1,h2⟩
 ·rintro w3 d xs L' rfl ⟨c,ws',hok,rfl⟩ s5;exact hQ w3 d c ws' hok s5
theorem Zqp {w:World}(s:St noB W w L)(hk:L[k]?=some (setC b g size ws))(hk2:L[k2]?=some (setC b2 g2 size2 ws2))(hko:L[ko]?=some (boxC ob 74 [.pointer (some ⟨b2,0,none⟩)]))(hsz:size<=1024)(hsz2:size2<=1024)(hpos:0<size2)(hD:Deb W) :
  Ct Tryz.prog Ze6.id #[.pointer (some ⟨b,0,none⟩),.slice (some ⟨ob,0,none⟩) 1 1] w λ v w'=>∃(c:Nat) (ws':List Nat),v = .int .i64 c/\(∀m:Nat,Bit ws' m=true↔Bit ws m=true\/(Bit ws2 m=true/\m<size))/\Zgm ws' size+c=Zgm ws size/\St noB W w' (L.set k (setC b g size ws')):=by
 refine Ct.intro (λ args w=>Tryz.call217 args w) λ R hR=>?_;refine callsIn_wide.1 (callsIn_of_wp_marks (n:=0) Tryz.func217 rfl trivial ?_ rfl);refine wpIn_wide.2 ?_
 show (Zp Tryz.f217).wp _ _ _ _
 rw[Zrw];obtain ⟨ρ0,hr0,g0,g1⟩:=rel2 Tryz.f217.ntmps (by rw[un_nt];decide) (.pointer (some ⟨b,0,none⟩)) (.slice (some ⟨ob,0,none⟩) 1 1);refine wp_seq (Zed (UnA.part_wp hr0 (R:=RS λ vs w'=>∃q,vs=#[.slice (some ⟨ob,0,none⟩) 1 1,.pointer (some ⟨q,0,none⟩)]/\St noB W w' (L++[boxC q 74 [.pointer (some ⟨b,0,none⟩)]])) ?_) ?_)
 ·rw[g0,g1]
  show UnA.b1 _ _ _ _
  unfold UnA.b1;have s1:=s.alloc #[.pointer (some ⟨b,0,none⟩)] 74;simp -dsimp[go_sem];exact ⟨_,rfl,s1⟩
 rintro a1 ρ1 w1 r1 ⟨q2,hv,s1⟩;injection hv with hv;injection hv with h11 hv;injection hv with h12 _;refine wp_seq (Zed (UnB.part_wp r1 (R:=RS λ vs w'=>∃q,vs=#[.slice (some ⟨ob,0,none⟩) 1 1,.pointer (some ⟨q2,0,none⟩),.pointer (some ⟨q,0,none⟩)]/\St noB W w' (boxC q2 74 [.pointer (some ⟨b,0,none⟩)]::boxC q 3 [.int .i64 0]::L)) ?_) ?_)
 ·rw[h11,h12]
  show UnB.b1 _ _ _ _
  unfold UnB.b1;have s2:=s1.alloc #[.int .i64 0] 3;rw[Q5]at s2;have s4:=s2.swap;simp -dsimp[go_sem];exact ⟨_,rfl,s4⟩
 rintro a2 ρ2 w2 r2 ⟨q5,hv,s2⟩;injection hv with hv;injection hv with h21 hv;injection hv with h22 hv;injection hv with h25 _;refine wp_seq (wp_seq (Zed (UnC.part_wp r2 (R:=RS λ vs w'=>vs=#[.pointer (some ⟨q2,0,none⟩),.pointer (some ⟨q5,0,none⟩),.slice (some ⟨ob,0,none⟩) 1 1,.int .i64 1,.int .i64 0]/\w2=w') ?_) ?_))
 ·rw[h21,h22,h25]
  show UnC.b1 _ _ _ _ _
  unfold UnC.b1;simp -dsimp[go_sem];exact ⟨rfl,rfl⟩
 rintro a3 ρ3 w3 r3 ⟨hv,rfl⟩;injection hv with hv;injection hv with h32 hv;injection hv with h35 hv;injection hv with h39 hv;injection hv with h310 hv;injection hv with h311 _;refine wp_block (wp_loop (λ a w'=>∃ρ D,Rel Tryz.f217.ntmps a ρ D/\ρ 2 = .pointer (some ⟨q2,0,none⟩)/\ρ 5 = .pointer (some ⟨q5,0,none⟩)/\ρ 9 = .slice (some ⟨ob,0,none⟩) 1 1/\ρ 10 = .int .i64 1 /\
   ((ρ 11 = .int .i64 0/\D=[]/\St noB W w' (boxC q2 74 [.pointer (some ⟨b,0,none⟩)]::boxC q5 3 [.int .i64 0]::L)) \/
     (ρ 11 = .int .i64 1/\∃d c ws',D=[{target := .collected d,args:=#[] }]/\UnOk size ws ws' (memb ws2) c/\St noB W w' ((boxC q2 74 [.pointer (some ⟨b,0,none⟩)]::boxC q5 3 [.int .i64 (c:Int)]::L.set k (setC b g size ws'))++[Zpq d]))))
  (λ a _=>2-iv (a.tmps.getD 11 undef)) ⟨ρ3,[],r3,h32,h35,h39,h310,Or.inl ⟨h311,rfl,s2⟩⟩ ?_)
 rintro a4 w4 ⟨ρ4,D,r4,e2,e5,e9,e10,hcase⟩;have hiv:iv (a4.tmps.getD 11 undef)=iv (ρ4 11):=by rw[r4.get 11]
 refine wp_seq (Zed (UnD.part_wp r4 (R:=RS λ vs w'=>∃t,vs=#[.pointer (some ⟨q2,0,none⟩),.pointer (some ⟨q5,0,none⟩),.slice (some ⟨ob,0,none⟩) 1 1,.int .i64 1,ρ4 11,.bool t]/\(t=true↔ρ4 11 = .int .i64 0)/\w4=w') ?_) ?_)
 ·rw[e2,e5,e9,e10]
  show UnD.b1 _ _ _ _ _ _ _
  unfold UnD.b1;rcases hcase with ⟨e11,_⟩|⟨e11,_⟩
  ·rw[e11];simp -dsimp[go_sem];exact ⟨rfl,rfl⟩
  ·rw[e11];simp -dsimp[go_sem];exact ⟨rfl,rfl⟩
 rintro a5 ρ5 w5 r5 ⟨t,hv,ht,rfl⟩;injection hv with hv;injection hv with h52 hv;injection hv with h55 hv;injection hv with h59 hv;injection hv with h510 hv;injection hv with h511 hv;injection hv with h512 _;have h12e:a5.eval (.tmp 12) = .bool t:=by show a5.tmps.getD 12 undef=_;rw[r5.get 12,h512]
 rcases hcase with ⟨e11,rfl,s4⟩|⟨e11,d,c,ws',rfl,hok,s4⟩
 ·have htt:t=true:=ht.2 e11;subst htt;refine wp_seq (wp_cond_true h12e (wp_skip ?_));refine wp_seq (wp_block (wp_seq (Zed (UnE.part_wp r5 (R:=RS λ vs w'=>vs=#[.pointer (some ⟨q2,0,none⟩),.pointer (some ⟨q5,0,none⟩),.pointer (some ⟨b2,0,none⟩),.slice (some ⟨ob,0,none⟩) 1 1,.int .i64 1,.int .i64 0]/\w4=w') ?_) ?_)))
  ·rw[h52,h55,h59,h510,h511,e11]
   show UnE.b1 _ _ _ _ _ _ _
   obtain ⟨y,_,_⟩:=s4.box (ko+2) (b:=ob) (t:=74) (cs:=[.pointer (some ⟨b2,0,none⟩)]) (by simpa using hko);simp[Zw]at y;unfold UnE.b1;simp -dsimp[go_sem,y];exact ⟨rfl,rfl⟩
  rintro a6 ρ6 w6 r6 ⟨hv,rfl⟩;injection hv with hv;injection hv with h62 hv;injection hv with h65 hv;injection hv with h67 hv;injection hv with h69 hv;injection hv with h610 hv;injection hv with h611 _;have hkc:(boxC q2 74 [.pointer (some ⟨b,0,none⟩)]::boxC q5 3 [.int .i64 0]::L)[k2+2]?=some (setC b2 g2 size2 ws2):=by simpa using hk2
  refine wp_seq (Zed (UnF.part_wp r6 (R:=RS λ vs w'=>∃pc gc cc,vs=#[.pointer (some ⟨q2,0,none⟩),.pointer (some ⟨q5,0,none⟩),.slice (some ⟨ob,0,none⟩) 1 1,.int .i64 1,.int .i64 0,.func (.func Zac.id) #[] #[.pointer (some ⟨pc,0,none⟩)]]/\St noB W w' ((boxC q2 74 [.pointer (some ⟨b,0,none⟩)]::boxC q5 3 [.int .i64 0]::L)++[boxC pc 195 [.slice (some ⟨gc,0,none⟩) ws2.length cc],rowC 263 1 (some ⟨gc,0,none⟩) ws2.length cc (u64s ws2)])) ?_) ?_)
  ·rw[h62,h65,h67,h69,h610,h611]
   show UnF.b1 _ _ _ _ _ _ _ _
   unfold UnF.b1;refine Zi (ZZ0 s4 hkc hsz2 hpos) ?_;rintro _ w7 ⟨pc,gc,cc,rfl,s7⟩;exact ⟨pc,gc,cc,rfl,s7⟩
  rintro a7 ρ7 w7 r7 ⟨pc,gc,cc,hv,s7⟩;injection hv with hv;injection hv with h72 hv;injection hv with h75 hv;injection hv with h79 hv;injection hv with h710 hv;injection hv with h711 hv;injection hv with h716 _;obtain ⟨hok2,_⟩:=s4.setAt (k2+2) hkc;refine Zys hk hsz hok2.lt (by have:=hok2.len;omega) hD r7 h72 h75 h716 s7 ?_;intro w8 d c ws' hok s8;have r8:Rel Tryz.f217.ntmps {a7 with defers:={target := .collected d,args:=#[] }::a7.defers } ρ7 [{target := .collected d,args:=#[] }]:=⟨r7.size,r7.get,by show _::a7.defers=_;rw[r7.defers]⟩
  show (UnI.code).wp _ _ _ _
  refine Zed (UnI.part_wp r8 (R:=RS λ vs w'=>vs=#[.pointer (some ⟨q2,0,none⟩),.pointer (some ⟨q5,0,none⟩),.slice (some ⟨ob,0,none⟩) 1 1,.int .i64 1,.int .i64 1]/\w8=w') ?_) ?_
  ·rw[h72,h75,h79,h710,h711]
   show UnI.b1 _ _ _ _ _ _ _
   unfold UnI.b1;simp -dsimp[go_sem];exact ⟨rfl,rfl⟩
  rintro a9 ρ9 w9 r9 ⟨hv,rfl⟩;injection hv with hv;injection hv with h92 hv;injection hv with h95 hv;injection hv with h99 hv;injection hv with h910 hv;injection hv with h911 _;refine ⟨⟨ρ9,_,r9,h92,h95,h99,h910,Or.inr ⟨h911,d,c,ws',rfl,hok,s8⟩⟩,?_⟩;rw[hiv,e11,r9.get 11,h911];simp[iv]
 ·have htt:t=false:=by
   cases t with
   | false=>rfl
   | true=>have:=ht.1 rfl;rw[e11]at this;cases this
  subst htt;refine wp_seq (wp_cond_false h12e (wp_exit ?_))
  show (Code.seq UnH.code .ret).wp _ _ _ _
  refine wp_seq (Zed (UnH.part_wp r5 (R:=RS λ vs w'=>vs=#[.int .i64 (c:Int)]/\w4=w') ?_) ?_)
  ·rw[h55]
   show UnH.b1 _ _ _
   obtain ⟨y,_,_⟩:=s4.box 1 rfl;simp[Zw]at y;unfold UnH.b1;simp -dsimp[go_sem,y];exact ⟨rfl,rfl⟩
  rintro a6 ρ6 w6 r6 ⟨hv,rfl⟩;injection hv with hv;injection hv with h64 _;refine wp_ret (Zq5 r6 (t:=4) rfl h64 s4 λ w' s'=>hR _ _ ⟨c,ws',rfl,λ m=>?_,hok.free,?_⟩)
  ·rw[hok.bit,Zhu]
  ·have:=s'.pick (List.range' 2 L.length) Qdm (L':=L.set k (setC b g size ws')) ?_
   ·exact this
   ·refine Qaw λ i=>?_;rw[Qh,Qh];by_cases hi:i<L.length
    ·rw[Qc9 hi];simp only[Qbx,Qcr];rw[Nat.add_comm 2 i,Qbq,Qbq,Qb (show i<(L.set k (setC b g size ws')).length by simpa using hi)];rfl
    ·rw[Qx (by simp;omega),Qx (by simp;omega)];rfl
end
end Go.Proofs.YtjibcckpehdbhaaGreatDoor
