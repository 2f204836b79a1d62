/-
  Texts of this claim: Rl5, Rl6, Sx1, Sx2, LzC, Sx3, Sx4, Sx5, Sx6.
-/
import Derived.Test.YtjibcckpehdbhaaGreatDoorY17
import Derived.Test.YtjibcckpehdbhaaGreatDoorY10
import Derived.Test.YtjibcckpehdbhaaGreatDoorY05
import Derived.Test.YtjibcckpehdbhaaGreatDoorY14
import Derived.Shelf.Slices.CompactI
set_option maxHeartbeats 1000000
set_option linter.unusedSimpArgs false
set_option linter.unusedVariables false
set_option maxRecDepth 100000
namespace Go.Px.Cn
open Go.Px Go.Px.Scan
theorem Znv {w:World}{B:Nat}{At:Option Addr}{n c:Nat}{T:List (Nat×Int)}(h:(Zq rTrn).at1 w B (.slice At n c) T){k:Nat}(hk:k<T.length) :
  ∃b o,At=some ⟨b,o,none⟩/\b<B/\w.cell? ⟨b,o+k*2,none⟩=some (.int .i64 T[k].1)/\w.cell? ⟨b,o+k*2+1,none⟩=some (.int .i64 T[k].2):=by
 obtain ⟨b,o,ys,hA,hb,rfl,hc⟩:=Zek h hk;refine ⟨b,o,hA,hb,?_,?_⟩
 ·have:=hc 0 _ rfl;simpa[rTrn,trV]using this
 ·have:=hc 1 _ rfl;simpa[rTrn,trV,Qck]using this
end Go.Px.Cn
namespace Go.Proofs.YtjibcckpehdbhaaGreatDoor
open Go.Px Go.Px.Scan Go.Px.Cn Go.RowKit
attribute [-go_sem] Builtin.append_ Zs.b5 Zs.b6 Zs.b10 Zs.b11 Zs.b16 Zs.b18 Zs.b22 Zs.b25_1 Zs.b21_1 Zs.b9_1 Zs.b9_2 Zs.b1_1 Zs.b1_2 Zs.b1_3 Zs.b1_4
def wdC (pb:Nat)(gv:List Value)(A:Option Addr)(n c:Nat)(asked:Int)(trv:Value)(ma mt:Nat)(van vp:Value):Ch:=boxC pb 188 (gv++[.slice A n c,.int .i64 asked,.int .i64 n,trv,.map (some ma),.map (some mt),van,vp])
theorem Zyz {G:Nat->Prop}{W w:World}{L:List Ch}(s:St G W w L)(k:Nat){pb:Nat}{a b d e f:Value}{A:Option Addr}{n c:Nat}{asked:Int}{trv:Value}{ma mt:Nat}{van vp:Value}(hk:L[k]?=some (wdC pb [a,b,d,e,f] A n c asked trv ma mt van vp)) :
  Zw w pb 0 [a,b,d,e,f,.slice A n c,.int .i64 asked,.int .i64 n,trv,.map (some ma),.map (some mt),van,vp]:=(s.box k hk).1
section
variable {G:Nat->Prop} {V W:World} {pb ma mt:Nat} {A:Option Addr} {c:Nat} {asked:Int} {g:Gr} {ks:List (List It)} {ess:List (List (Int×Nat))} {van vp:Value} {T:List (Nat×Int)} {At:Option Addr} {R:EP} {x1 x4 g1 g2 g3 g4 g5:Value} {C1 C2 C3:Ch}
theorem of_at {w:World}{ct:Nat}(hT:∀w' L',St G V w' L'->(Zq rTrn).at1 w' w'.heap.size (.slice At T.length ct) T)(hTl:T.length<=40000)(hTs:∀x∈T,x.1<65536/\0<=x.2/\x.2<65536)
  (s:St G V w [wdC pb [g1,g2,g3,g4,g5] A ks.length c asked (.slice At T.length ct) ma mt van vp,mapC Tryz.prog kTr 190 3 (.map (some ma)) 0 (λ _=>0),C1,C2,C3])
  (hgo:∀w' cnt,St G V w' [wdC pb [g1,g2,g3,g4,g5] A ks.length c asked (.slice At T.length ct) ma mt van vp,mapC Tryz.prog kTr 190 3 (.map (some ma)) cnt (atP T T.length),C1,C2,C3]->Zs.b11 R x1 x4 (.pointer (some ⟨pb,0,none⟩)) w') :
  Zs.b22 R x1 x4 (.pointer (some ⟨pb,0,none⟩)) w:=by
 have y:=(s.box 0 (by unfold wdC;rfl)).1;simp[Zw]at y;unfold Zs.b22;simp -dsimp[go_sem,y];refine Zs.l24_intro _ _ _ _ _ _ _ _ (λ y w'=>∃j cnt:Nat,y = .int .i64 j/\j<=T.length/\cnt<=j/\St G V w' [wdC pb [g1,g2,g3,g4,g5] A ks.length c asked (.slice At T.length ct) ma mt van vp,mapC Tryz.prog kTr 190 3 (.map (some ma)) cnt (atP T j),C1,C2,C3]) (λ y _=>T.length-iv y)
  ⟨0,0,rfl,Qy _,Ql _,s⟩ ?_
 rintro _ w1 ⟨j,cnt,rfl,hj,hcnt,s1⟩ C hC;simp -dsimp[go_sem];refine Za (λ p1=>?_) (λ p1=>?_)<;>simp at p1
 ·have wk:=wS j (by omega);obtain ⟨b,o,rfl,hb,x1,x2⟩:=Znv (hT w1 _ s1) p1;have hm:=hTs _ (Qj p1);have hx:T[j]?=some T[j]:=Qb p1;obtain ⟨e,he⟩:∃e,T[j]=e:=⟨_,rfl⟩;rw[he]at x1 x2 hm hx;obtain ⟨q,a⟩:=e;simp only at x1 x2 hm;obtain ⟨sn,rfl⟩:∃n:Nat,a=n:=⟨a.toNat,by omega⟩;have s2:=(s1.alloc #[.int .i64 (q:Int),.int .i64 (sn:Int)] 190).old (Chg.refl noB _).drew;obtain ⟨y,_,yl⟩:=s1.box 0 (by unfold wdC;rfl);simp[Zw]at y;obtain ⟨q1,q2⟩:=ZZ70 hx (show q<65536 by omega) (show sn<65536 by omega);obtain ⟨cn,hcn1,hcn2,hcn3⟩:∃n,(atP T j (tr q sn)=0->n=cnt+1)/\(atP T j (tr q sn)≠0->n=cnt)/\n<=cnt+1:=by
   by_cases h:atP T j (tr q sn)=0
   ·exact ⟨cnt+1,λ _=>rfl,λ h2=>absurd h h2,Ql _⟩
   ·exact ⟨cnt,λ h2=>absurd h2 h,λ _=>rfl,by omega⟩
  obtain ⟨w3,hrun,s3⟩:=s2.mapPut mTr 1 (b:=ma) (n:=cnt) (f:=atP T j) rfl (tr q sn) trivial (by unfold maxLen;omega) (x:=(j:Int)+1) ⟨by omega,by omega⟩ (by omega) cn (atP T (j+1)) hcn1 hcn2 q1 q2;rw[Ziz (by omega) (by omega)]at hrun;unfold Zs.b25_1;simp -dsimp[go_sem,p1,x1,x2,y,yl,hrun,wk];exact hC _ _ ⟨j+1,cn,by simp,by omega,by omega,s3.take 5⟩ (by simp[iv];omega)
 ·have:j=T.length:=by omega
  subst this;exact hgo w1 cnt s1
theorem Zyk {w:World}(hup:∀w' L',St G V w' L'->Chg noB W w'){i cnt B:Nat}{es:List (Int×Nat)}{ae:Option Addr}{trv:Value}{C13:VP}(h:AutP g ks ess)
  (hes:ess[i]?=some es) (hrd:∀w',Chg noB W w'->(Zq Zj8).at1 w' B (.slice ae es.length es.length) es) (hi:i<300) (hcnt:cnt<=40000)
  (s:St G V w [wdC pb [g1,g2,g3,g4,g5] A ks.length c asked trv ma mt van vp,C1,mapC Tryz.prog kTr 190 3 (.map (some mt)) cnt (pU ess i []),C2,C3])
  (hgo:∀w' cnt',cnt'<=cnt+130->St G V w' [wdC pb [g1,g2,g3,g4,g5] A ks.length c asked trv ma mt van vp,C1,mapC Tryz.prog kTr 190 3 (.map (some mt)) cnt' (pU ess (i+1) []),C2,C3]->Zs.b16 R C13 (.int .i64 i) w') :
  Zs.l20 R C13 (.pointer (some ⟨pb,0,none⟩)) (.int .i64 i) (.int .i64 i) (.slice ae es.length es.length) (.int .i64 es.length) (.int .i64 0) w:=by
 have hel:=h.eslen hes;refine Zs.l20_intro _ _ _ _ _ _ _ _ _ (λ y w'=>∃k cnt':Nat,y = .int .i64 k/\k<=es.length/\cnt'<=cnt+k/\St G V w' [wdC pb [g1,g2,g3,g4,g5] A ks.length c asked trv ma mt van vp,C1,mapC Tryz.prog kTr 190 3 (.map (some mt)) cnt' (pU ess i ((es.take k).map (·.1))),C2,C3]) (λ y _=>es.length-iv y)
  ⟨0,cnt,rfl,Qy _,Ql _,s⟩ ?_
 rintro _ w1 ⟨k,cnt',rfl,hk,hcnt',s1⟩ C hC;simp -dsimp[go_sem];refine Za (λ p1=>?_) (λ p1=>?_)<;>simp at p1
 ·have wk:=wS k (by omega);obtain ⟨b,o,rfl,hb,x1,x2⟩:=Zkt (hrd w1 (hup _ _ s1)) p1;have hm:=Qj p1;obtain ⟨hs1,hs2⟩:=h.sym hes hm;have hf:=h.find hes hm;have et:es.take (k+1)=es.take k++[es[k]]:=Qd p1;obtain ⟨e,he⟩:∃e,es[k]=e:=⟨_,rfl⟩;rw[he]at x1 x2 hm hs1 hs2 hf et;obtain ⟨a,r⟩:=e;simp only at x1 x2 hs1 hs2 hf;have hT:=h.cl.syms.t1;have hN:=h.cl.syms.n1;have hlen:=h.len;obtain ⟨an,rfl⟩:∃n:Nat,a=n:=⟨a.toNat,by omega⟩;have wr:=wS r (by omega);have s2:=(s1.alloc #[.int .i64 (an:Int),.int .i64 (r:Int)] 99).old (Chg.refl noB _).drew;obtain ⟨y,_,yl⟩:=s1.box 0 (by unfold wdC;rfl);simp[Zw]at y;obtain ⟨q1,q2⟩:=ZZ173 (S:=(es.take k).map (·.1)) (ess:=ess) (i:=i) (a:=an) (r:=r) (by omega) (by omega) hf (by omega);obtain ⟨cn,hcn1,hcn2,hcn3⟩:∃n,(pU ess i ((es.take k).map (·.1)) (tr i an)=0->n=cnt'+1)/\(pU ess i ((es.take k).map (·.1)) (tr i an)≠0->n=cnt')/\n<=cnt'+1:=by
   by_cases h:pU ess i ((es.take k).map (·.1)) (tr i an)=0
   ·exact ⟨cnt'+1,λ _=>rfl,λ h2=>absurd h h2,Ql _⟩
   ·exact ⟨cnt',λ h2=>absurd h2 h,λ _=>rfl,by omega⟩
  obtain ⟨w3,hrun,s3⟩:=s2.mapPut mTr 2 (b:=mt) (n:=cnt') (f:=pU ess i ((es.take k).map (·.1))) rfl (tr i an) trivial (by unfold maxLen;omega) (x:=(r:Int)+1) ⟨by omega,by omega⟩ (by omega) cn (pU ess i ((es.take k).map (·.1)++[(an:Int)])) hcn1 hcn2 q1 q2;rw[Ziz (by omega) (by omega)]at hrun;unfold Zs.b21_1;simp -dsimp[go_sem,p1,x1,x2,y,yl,hrun,wk,wr];refine hC _ _ ⟨k+1,cn,by simp,by omega,by omega,?_⟩ (by simp[iv];omega);rw[et,Qu];exact s3.take 5
 ·have:k=es.length:=by omega
  subst this;rw[Qm,ZZ65 hes]at s1;exact hgo w1 cnt' (by omega) s1
theorem of_to {w:World}(hup:∀w' L',St G V w' L'->Chg noB W w'){ab:Nat}{trv:Value}(h:AutP g ks ess)(hau:AuR W A ks ess)(hab:∀w',Chg noB W w'->w'.cell? ⟨ab,0,none⟩=some (.slice A ks.length c))
  (s:St G V w [wdC pb [g1,g2,g3,g4,g5] A ks.length c asked trv ma mt van vp,C1,mapC Tryz.prog kTr 190 3 (.map (some mt)) 0 (λ _=>0),C2,C3])
  (hgo:∀w' cnt',St G V w' [wdC pb [g1,g2,g3,g4,g5] A ks.length c asked trv ma mt van vp,C1,mapC Tryz.prog kTr 190 3 (.map (some mt)) cnt' (pU ess ess.length []),C2,C3]->Zs.b6 R x1 (.pointer (some ⟨pb,0,none⟩)) w') :
  Zs.b11 R x1 (.pointer (some ⟨ab,0,none⟩)) (.pointer (some ⟨pb,0,none⟩)) w:=by
 have y:=hab w (hup _ _ s);have hlen:=h.len;unfold Zs.b11;simp -dsimp[go_sem,y];refine Zs.l13_intro _ _ _ _ _ _ _ (λ y w'=>∃i cnt:Nat,y = .int .i64 i/\i<=ks.length/\cnt<=i*130/\St G V w' [wdC pb [g1,g2,g3,g4,g5] A ks.length c asked trv ma mt van vp,C1,mapC Tryz.prog kTr 190 3 (.map (some mt)) cnt (pU ess i []),C2,C3]) (λ y _=>ks.length-iv y)
  ⟨0,0,rfl,Qy _,Ql _,by rw[ZZ50];exact s⟩ ?_
 rintro _ w5 ⟨i,cnt,rfl,hi,hcnt,s5⟩ C hC;simp -dsimp[go_sem];refine Za (λ p1=>?_) (λ p1=>?_)<;>simp at p1
 ·have wi:=wS i (by omega);obtain ⟨l,es,hl,hes',_⟩:=h.at p1;obtain ⟨gs,a,ca,ae,rfl,x1,x2,_⟩:=(hau.keep (hup _ _ s5)).at hl hes';have hel:=h.eslen hes';have s6:=s5.alloc #[.slice (some a) l.length ca,.slice ae es.length es.length] 95;unfold Zs.b18;simp -dsimp[go_sem,p1,x1,x2];have s7:=s6.take 5;refine Zyk hup (B:=W.heap.size) h hes' (λ w' hc=>?_) (by omega) (by omega) s7 λ w6 cnt' h1 s8=>?_
  ·obtain ⟨gs2,_,_,ae2,e1,_,x2',x3'⟩:=hau.at hl hes';injection e1 with e1;injection e1 with e1;subst e1;have:=(hup _ _ s5).at x2' id;rw[x2]at this;injection this with this;injection this with this;subst this;exact Rep.below x3' (hc.below (Ql _) λ _ _=>id)
  ·unfold Zs.b16;simp -dsimp[go_sem,wi];exact hC _ _ ⟨i+1,cnt',by simp,by omega,by omega,s8⟩ (by simp[iv];omega)
 ·have:i=ks.length:=by omega
  subst this;have e:pU ess ks.length []=pU ess ess.length []:=by rw[h.es.len]
  rw[e]at s5;exact hgo _ _ s5
def byM (P:Prs)(k:Nat)(s:Int):List Nat:=(List.range k).filter λ p=>decide (0<p/\lft P p=s)
theorem Zql (P:Prs)(k:Nat)(s:Int):byM P (k+1) s=if 0<k/\lft P k=s then byM P k s++[k] else byM P k s:=by
 unfold byM;rw[Qch,Qae];by_cases h:0<k/\lft P k=s
 ·rw[if_pos h,Qaz (by simpa using h)];rfl
 ·rw[if_neg h,Qat (by simpa using h)];simp
theorem of_by {w:World}(hup:∀w' L',St G V w' L'->Chg noB W w'){B q:Nat}{trv vm:Value}{A1 A2 A3 A4:Option Addr}{c1 c2 c3 c4:Nat}(hgr:∀w',Chg noB W w'->GRd w' B q g A1 c1 A2 c2 A3 c3 A4 c4)(hq:q<W.heap.size)(hpl:g.prods.length<=97)
  (s:St G V w [wdC pb [g1,g2,g3,g4,g5] A ks.length c asked trv ma mt van vm,C1,C2,Zdt Tryz.prog kInt 3 vm 0 (λ _=>none),Ch.all (Zdu 3 1 cN ([]:List (Ent Int Nat)))])
  (hgo:∀w' n E,(∀s,vE E s=byM g.prods g.prods.length s)->St G V w' [wdC pb [g1,g2,g3,g4,g5] A ks.length c asked trv ma mt van vm,C1,C2,Zdt Tryz.prog kInt 3 vm n (fE E),Ch.all (Zdu 3 1 cN E)]->Zs.b5 R (.pointer (some ⟨pb,0,none⟩)) w') :
  Zs.b6 R (.pointer (some ⟨q,0,none⟩)) (.pointer (some ⟨pb,0,none⟩)) w:=by
 have y:=(hgr w (hup _ _ s)).k;unfold Zs.b6;simp -dsimp[go_sem,y];refine Zs.l8_intro _ _ _ _ _ _ (λ y w'=>∃(k n:Nat) (E:List (Ent Int Nat)),y = .int .i64 k/\k<=g.prods.length/\n<=k/\(E.map (·.1)).Nodup/\(∀s,vE E s=byM g.prods k s)/\St G V w' [wdC pb [g1,g2,g3,g4,g5] A ks.length c asked trv ma mt van vm,C1,C2,Zdt Tryz.prog kInt 3 vm n (fE E),Ch.all (Zdu 3 1 cN E)]) (λ y _=>g.prods.length-iv y)
  ⟨0,0,[],rfl,by omega,by omega,by simp,λ s=>by simp[vE,byM],s⟩ ?_
 rintro _ w3 ⟨k,n,E,rfl,hk,hnk,hE,hv,s3⟩ C hC;have wk:=wS k (by omega);simp -dsimp[go_sem];refine Za (λ p1=>?_) (λ p1=>?_)<;>simp at p1
 ·obtain ⟨bp,op,vr,eA,hbp,x1,x2,x3,hr,z1,z2⟩:=Zcc (hgr w3 (hup _ _ s3)).r4 p1;subst eA;obtain ⟨Ar,cr,rfl,hrl,hrm,_⟩:=Zz hr;obtain ⟨lf,hlf⟩:∃lf,g.prods[k].1=lf:=⟨_,rfl⟩;have hlk:lft g.prods k=lf:=by unfold lft;rw[Qc,Qb p1];exact hlf
  rw[hlf]at x1 z1;have s4:=s3.alloc #[.int .i64 lf,.slice Ar g.prods[k].2.1.length cr,.int .i64 g.prods[k].2.2] 103;unfold Zs.b9_2;simp -dsimp[go_sem,p1,x1,x2,x3];refine Za (λ p2=>?_) (λ p2=>?_)<;>simp at p2
  ·have y4:=Zyz s4 0 rfl;have z4:=(s4.box 5 rfl).1;simp only[Zw]at y4 z4;have y45:=y4.2.2.2.2.2.2.2.2.2.2.2.2.1;have z40:=z4.1;unfold Zs.b9_1;simp -dsimp[go_sem,y45,z40];have s4d:=s4.old ((Chg.refl noB _).drew);clear y4 z4 y45 z40 s4;generalize (w3.alloc (.cells #[.int .i64 lf,.slice Ar g.prods[k].2.1.length cr,.int .i64 g.prods[k].2.2] 103)).drew=w4 at s4d |-;generalize w3.heap.size=pq at s4d |-;have hl4:(Instr.lookup 186 vm (.int .i64 lf) false).run Tryz.prog w4=_:=s4d.mapVGet mBy 3 rfl lf z1;have s5:=s4d.lit 3 1 1 #[.int .i64 k] (by simp[maxLen]) rfl;have hl5:(Instr.lookup 186 vm (.int .i64 lf) false).run Tryz.prog (w4.alloc (.cells #[.int .i64 k] 3))=_:=s5.mapVGet mBy 3 rfl lf z1;have y5:=(Zyz s5 0 rfl).2.2.2.2.2.2.2.2.2.2.2.2.1;have z5:=(s5.box 5 rfl).1.1;have hnew:=Zdj w4 [.int .i64 k] 3 rfl;simp -dsimp[go_sem,hl4,hl5,y5,z5];clear hl4 hl5 y5 z5;have s5':=s4d.old ((Chg.refl noB w4).alloc (.cells #[.int .i64 k] 3));generalize w4.alloc (.cells #[.int .i64 k] 3)=w5 at s5' hnew |-;clear s5;have hvl:(vE E lf).length<=97:=by
    rw[hv lf];have:=Qah (λ p=>decide (0<p/\lft g.prods p=lf)) (List.range k);rw[Qci]at this;unfold byM;omega
   refine s5'.grpAppend 4 rfl hE (λ _=>rfl) (λ x u hu=>by simp[cN]at hu;subst hu;rfl) Zgn iInt rfl (by decide) lf k hnew (by unfold maxLen;omega) (by unfold Zaf;omega) ?_;intro E' v' w6 h1 h2 h3 h4 h5 h6 h7 s6;have y6:=(Zyz s6 0 rfl).2.2.2.2.2.2.2.2.2.2.2.2.1;have z6:=(s6.box 5 rfl).1.1;obtain ⟨w7,hrun,s7⟩:=s6.mapVPut mBy 3 rfl lf z1 (by unfold maxLen;omega) v' (fE E') h2 h3;have hrun:(Instr.mapUpdate 186 vm (.int .i64 lf) v').run Tryz.prog w6 = .ok () w7:=hrun;unfold Zs.b10;simp -dsimp[go_sem,y6,z6,hrun,wk];refine hC _ _ ⟨k+1,n+1,E',by simp,by omega,by omega,h1,λ s=>?_,s7.take 5⟩ (by simp[iv];omega);rw[Zql,hlk];by_cases e:s=lf
   ·subst e;rw[if_pos ⟨p2,rfl⟩,h4,hv]
   ·rw[if_neg (λ h=>e h.2.symm),h5 s e,hv]
  ·unfold Zs.b10;simp -dsimp[go_sem,wk];refine hC _ _ ⟨k+1,n,E,by simp,by omega,by omega,hE,λ s=>?_,s4.take 5⟩ (by simp[iv];omega);rw[Zql,if_neg (by omega),hv]
 ·have:k=g.prods.length:=by omega
  subst this;exact hgo _ _ _ hv s3
end
end Go.Proofs.YtjibcckpehdbhaaGreatDoor
namespace Go.Px.Cn
open Go.Px Go.Px.Scan
def byQ (P:Prs)(s:Int):List Nat:=(List.range P.length).filter λ p=>decide (0<p/\lft P p=s)
end Go.Px.Cn
namespace Go.Proofs.YtjibcckpehdbhaaGreatDoor
open Go.Px Go.Px.Scan Go.Px.Cn Go.RowKit
attribute [-go_sem] Builtin.append_ Zs.b5 Zs.b6 Zs.b10 Zs.b11 Zs.b16 Zs.b18 Zs.b22 Zs.b25_1 Zs.b21_1 Zs.b9_1 Zs.b9_2 Zs.b1_1 Zs.b1_2 Zs.b1_3 Zs.b1_4
structure Wd where
 A1:Option Addr
 A2:Option Addr
 A3:Option Addr
 A4:Option Addr
 A:Option Addr
 At:Option Addr
 c1:Nat
 c2:Nat
 c3:Nat
 c4:Nat
 c:Nat
 nb:Nat
 vc:Nat
 ma:Nat
 mt:Nat
 mp:Nat
 asked:Int
 ms:List Bool
 pA:Int->Option Addr
 pc:Int->Nat
structure WoF (w:World)(pb:Nat)(g:Gr)(ks:List (List It))(ess:List (List (Int×Nat)))(d:Wd):Prop where
 cells:Zw w pb 0 [.slice d.A1 g.terms.length d.c1,.slice d.A2 g.nons.length d.c2,.slice d.A3 g.levels.length d.c3,.int .i64 g.start,.slice d.A4 g.prods.length d.c4,
  .slice d.A ks.length d.c,.int .i64 d.asked,.int .i64 ks.length,.slice d.At (trL g.terms.length ess).length (trL g.terms.length ess).length,.map (some d.ma),.map (some d.mt),.slice (some ⟨d.nb,g.terms.length,none⟩) g.nons.length d.vc,.map (some d.mp)]
 lt:pb<w.heap.size
 au:AuR w d.A ks ess
 tr:(Zq rTrn).at1 w w.heap.size (.slice d.At (trL g.terms.length ess).length (trL g.terms.length ess).length) (trL g.terms.length ess)
 pr:(Zq rPr).at1 w w.heap.size (.slice d.A4 g.prods.length d.c4) g.prods
 van:∀(i:Nat) (h:i<d.ms.length),w.cell? ⟨d.nb,g.terms.length+i,none⟩=some (.bool d.ms[i])
 at_:∀q s:Nat,q<65536->s<65536->(Instr.lookup 185 (.map (some d.ma)) (.agg #[.int .i64 q,.int .i64 s]) false).run Tryz.prog w = .ok (.int .i64 (atV (trL g.terms.length ess) q s)) w
 to_:∀q s:Nat,q<65536->s<65536->(Instr.lookup 185 (.map (some d.mt)) (.agg #[.int .i64 q,.int .i64 s]) false).run Tryz.prog w = .ok (.int .i64 (toV ess q s)) w
 by_:∀s,Zdf s->(Instr.lookup 186 (.map (some d.mp)) (.int .i64 s) false).run Tryz.prog w = .ok (.slice (d.pA s) (byQ g.prods s).length (d.pc s)) w /\
  ∀(i p:Nat),(byQ g.prods s)[i]?=some p->∃gb,d.pA s=some ⟨gb,0,none⟩/\w.cell? ⟨gb,i,none⟩=some (.int .i64 p)
structure WoR (w:World)(pb:Nat)(g:Gr)(ks:List (List It))(ess:List (List (Int×Nat)))(d:Wd):Prop where
 aut:AutP g ks ess
 msl:d.ms.length=g.nons.length
 nul:∀s,Nul g.prods s↔vanS g.terms.length d.ms s=true
 f:∀w',Chg noB w w'->WoF w' pb g ks ess d
theorem WoR.keep {w w':World}{pb:Nat}{g:Gr}{ks:List (List It)}{ess:List (List (Int×Nat))}{d:Wd}(h:WoR w pb g ks ess d)(hc:Chg noB w w'):WoR w' pb g ks ess d:=⟨h.aut,h.msl,h.nul,λ w'' hc'=>h.f w'' (hc.trans hc')⟩
theorem WoR.here {w:World}{pb:Nat}{g:Gr}{ks:List (List It)}{ess:List (List (Int×Nat))}{d:Wd}(h:WoR w pb g ks ess d):WoF w pb g ks ess d:=h.f w (Chg.refl _ _)
theorem ZZ115 (a b c d e:Option Addr)(n1 n2 n3 n4 n5 d1 d2 d3 d4 d5:Nat)(x y z:Int)(m1 m2 m3:Nat)(w:World):(Instr.build 188 #[(0,.agg #[.slice a n1 d1,.slice b n2 d2,.slice c n3 d3,.int .i64 x,.slice d n4 d4]),(1,.agg #[.slice e n5 d5,.int .i64 y,.int .i64 z]),(3,.map (some m1)),(4,.map (some m2)),(6,.map (some m3))]).run Tryz.prog w = .ok (.agg #[.slice a n1 d1,.slice b n2 d2,.slice c n3 d3,.int .i64 x,.slice d n4 d4,.slice e n5 d5,.int .i64 y,.int .i64 z,.slice none 0 0,.map (some m1),.map (some m2),.slice none 0 0,.map (some m3)]) w:=by
 have e1:∀(A:Array Value) (k m:Nat),Array.foldl (λ (cs:Array Value) (x:Value×Nat)=>cs.setIfInBounds (k+x.snd) x.fst) A (Value.map (some m)).cells.zipIdx 0 1=A.setIfInBounds k (.map (some m)):=λ A k m=>rfl;simp[go_sem,e1]
attribute [go_sem ↓] ZZ115
theorem byE (P:Prs){E:List (Ent Int Nat)}(hE:∀s,vE E s=byQ P s)(s:Int):(fE E s).getD (.slice none 0 0) = .slice (((E.find? λ x=>x.1=s).map (·.2.1)).getD none) (byQ P s).length (((E.find? λ x=>x.1=s).map (·.2.2.1)).getD 0):=by
 rw[<-hE s];unfold fE vE
 cases E.find? (λ x=>x.1=s) with
 | none=>rfl
 | some x=>rfl
theorem Zmn {w:World}{B:Nat}{vg:Value}{g:Gr}(hg:Zb7.atN w B vg g)(hB:B<=w.heap.size)(hD:Deb w) :
  Ct Tryz.prog Zs.id #[vg] w λ v w'=>Chg noB w w'/\((∃e:Nat,NoAut g e/\v = .tuple #[.pointer none,.int .i64 e]) \/
   ∃pb ks ess d,v = .tuple #[.pointer (some ⟨pb,0,none⟩),.int .i64 0]/\WoR w' pb g ks ess d/\vg = .agg #[.slice d.A1 g.terms.length d.c1,.slice d.A2 g.nons.length d.c2,.slice d.A3 g.levels.length d.c3,.int .i64 g.start,.slice d.A4 g.prods.length d.c4]):=by
 refine Zs.ct λ R hR=>?_;obtain ⟨A1,c1,A2,c2,A3,c3,A4,c4,rfl,⟨m1,m2,m3,m4⟩,hst,hc0,hgr⟩:=Zbg hg hB;have s1:=(St.refl noB w).alloc (gQ A1 c1 A2 c2 A3 c3 A4 c4 g) 27;have y1:=(hgr _ (Chg.refl _ _)).k;have hr4:(Zq rPr).at1 w B (.slice A4 g.prods.length c4) g.prods:=by obtain ⟨_,_,_,_,_,_,_,_,e,_,_,_,_,h5,_⟩:=(Zcg hg).ex;injection e with e;injection e with e;simp at e;rw[e.2.2.2.1,e.2.2.2.2];exact h5
 unfold Zs.run;simp -dsimp[go_sem,y1];have hg1:=Zx hg (s1.chg.below hB λ _ _=>id);have hB1:B<=(w.alloc (.cells (gQ A1 c1 A2 c2 A3 c3 A4 c4 g) 27)).heap.size:=by have:=s1.chg.size;omega
 have hql:w.heap.size<(w.alloc (.cells (gQ A1 c1 A2 c2 A3 c3 A4 c4 g) 27)).heap.size:=by simp
 clear hc0 y1;generalize w.alloc (.cells (gQ A1 c1 A2 c2 A3 c3 A4 c4 g) 27)=w1 at s1 hg1 hB1 hgr hql |-;generalize hqe:w.heap.size=q at s1 hgr hql |-;refine Zi (Zl2 hg1 hB1) ?_;rintro v w2 ⟨hc2,hres⟩;have s2:=s1.old hc2;have bad:∀e:Nat,NoAut g e->v = .tuple #[.agg #[.slice none 0 0,.int .i64 0,.int .i64 0],.int .i64 e]->Zs.b1_4 R (.pointer (some ⟨q,0,none⟩)) v w2:=by
  rintro e he rfl;have hne:((e:Int) != 0)=true:=by rcases he with ⟨rfl,_⟩ | ⟨rfl,_⟩<;>rfl
  have s3:=s2.alloc #[.slice none 0 0,.int .i64 0,.int .i64 0] 34;unfold Zs.b1_4;simp -dsimp[go_sem,hne];exact hR _ _ ⟨s3.chg,Or.inl ⟨e,he,rfl⟩⟩
 rcases hres with ⟨hn,rfl⟩|⟨hcl,rfl⟩|⟨hcl,A,c,asked,ks,ess,rfl,hlr,hkl,hkv,hstr,hk0,hes,hed⟩
 ·exact bad 1 (Or.inl ⟨rfl,hn⟩) rfl
 ·exact bad 11 (Or.inr ⟨rfl,hcl.1,hcl.2⟩) rfl
 clear bad;have hP:AutP g ks ess:=⟨hcl,hlr,hkl,hkv,hk0,hes⟩;have s3:=s2.alloc #[.slice A ks.length c,.int .i64 asked,.int .i64 ks.length] 34;have hau:AuR w2 A ks ess:=⟨hstr,hed⟩;have hc3:Chg noB w2 (w2.alloc (.cells #[.slice A ks.length c,.int .i64 asked,.int .i64 ks.length] 34)):=(Chg.refl _ _).alloc _;unfold Zs.b1_4;simp -dsimp[go_sem];have hau3:=hau.keep hc3;have hcw13:=hc2.trans hc3;generalize w2.alloc (.cells #[.slice A ks.length c,.int .i64 asked,.int .i64 ks.length] 34)=w3 at s3 hc3 hau3 hcw13 |-;generalize w2.heap.size=ab at s3 |-;have y3:=(s3.box 0 rfl).1;have z3:=(s3.box 1 rfl).1;simp[Zw]at y3 z3;have hcw3:Chg noB w w3:=s3.chg;have hb3:∀w',Chg noB w3 w'->Zw w' ab 0 [.slice A ks.length c,.int .i64 asked,.int .i64 ks.length]:=λ w' hc=>((s3.old hc).box 1 rfl).1;have hgr3:∀w',Chg noB w3 w'->GRd w' B q g A1 c1 A2 c2 A3 c3 A4 c4:=λ w' hc=>hgr w' (hcw13.trans hc);have hq3:q<w3.heap.size:=by have:=hcw13.size;omega
 unfold Zs.b1_3;simp -dsimp[go_sem,y3,z3,mkTr,mkBy];have t1:=(((((St.refl noB w3).map Tryz.prog kTr 190 3).map Tryz.prog kTr 190 3).mapV Tryz.prog kInt 3).alloc #[.slice A1 g.terms.length c1,.slice A2 g.nons.length c2,.slice A3 g.levels.length c3,.int .i64 g.start,.slice A4 g.prods.length c4,.slice A ks.length c,.int .i64 asked,.int .i64 ks.length,.slice none 0 0,.map (some w3.heap.size),.map (some (w3.heap.size+1)),.slice none 0 0,.map (some (w3.heap.size+1+1))] 188).push (c:=Ch.all (Zdu 3 1 cN ([]:List (Ent Int Nat)))) ⟨λ _=>0,λ i h=>absurd rfl h,λ k c h=>by simp[Zdu]at h⟩;have e1:(w3.alloc (.map #[] 0)).heap.size=w3.heap.size+1:=by simp
 have e2:((w3.alloc (.map #[] 0)).alloc (.map #[] 0)).heap.size=w3.heap.size+1+1:=by simp
 have e3:(((w3.alloc (.map #[] 0)).alloc (.map #[] 0)).alloc (.map #[] 0)).heap.size=w3.heap.size+1+1+1:=by simp
 rw[e1,e2,e3]at t1;have hB4:B<=((((w3.alloc (.map #[] 0)).alloc (.map #[] 0)).alloc (.map #[] 0)).alloc (.cells #[.slice A1 g.terms.length c1,.slice A2 g.nons.length c2,.slice A3 g.levels.length c3,.int .i64 g.start,.slice A4 g.prods.length c4,.slice A ks.length c,.int .i64 asked,.int .i64 ks.length,.slice none 0 0,.map (some w3.heap.size),.map (some (w3.heap.size+1)),.slice none 0 0,.map (some (w3.heap.size+1+1))] 188)).heap.size:=by have:=t1.chg.size;have:=hcw13.size;omega
 generalize (((w3.alloc (.map #[] 0)).alloc (.map #[] 0)).alloc (.map #[] 0)).alloc (.cells #[.slice A1 g.terms.length c1,.slice A2 g.nons.length c2,.slice A3 g.levels.length c3,.int .i64 g.start,.slice A4 g.prods.length c4,.slice A ks.length c,.int .i64 asked,.int .i64 ks.length,.slice none 0 0,.map (some w3.heap.size),.map (some (w3.heap.size+1)),.slice none 0 0,.map (some (w3.heap.size+1+1))] 188)=w4 at t1 hB4 |-;obtain ⟨pb,hpb⟩:∃pb,w3.heap.size+1+1+1=pb:=⟨_,rfl⟩;obtain ⟨mp,hmp⟩:∃pb,w3.heap.size+1+1=pb:=⟨_,rfl⟩;obtain ⟨mt,hmt⟩:∃pb,w3.heap.size+1=pb:=⟨_,rfl⟩;obtain ⟨ma,hma⟩:∃pb,w3.heap.size=pb:=⟨_,rfl⟩;rw[hpb,hmp,hmt,hma]at t1;rw[hpb];have t2:St noB w3 w4 [wdC pb (gU A1 c1 A2 c2 A3 c3 A4 c4 g) A ks.length c asked (.slice none 0 0) ma mt (.slice none 0 0) (.map (some mp)),mapC Tryz.prog kTr 190 3 (.map (some ma)) 0 (λ _=>0),mapC Tryz.prog kTr 190 3 (.map (some mt)) 0 (λ _=>0),Zdt Tryz.prog kInt 3 (.map (some mp)) 0 (λ _=>none),Ch.all (Zdu 3 1 cN ([]:List (Ent Int Nat)))]:=t1.pick [3,0,1,2,4] (by decide) rfl;have y4:=(hgr3 w4 t2.chg).k;have hg4:=Zx hg (((s3.chg.trans t2.chg)).below hB λ _ _=>id);simp -dsimp[go_sem,y4];refine Zi (ZZ43 hg4 hB4) ?_;rintro v w5 ⟨hc5,hres⟩;rcases hres with ⟨e,he,_⟩|⟨ks',ess',At,ct,rfl,hP',sT⟩
 ·exact absurd he hP.noAut
 obtain ⟨rfl,rfl⟩:=hP'.uniq hP;obtain ⟨T,hTe⟩:∃T,trL g.terms.length ess'=T:=⟨_,rfl⟩;have hnd:T.Nodup:=hTe ▸ Zke hP g.terms.length;have hmem:∀q s,(q,s)∈T↔(g.terms.length:Int)<=s/\Tr g.prods ks' q s:=λ q s=>by rw[<-hTe];exact hP.mem_trL
 have hT1:=hcl.syms.t1;have hN1:=hcl.syms.n1;have hTl:T.length<=40000:=by
  have:=Zot (nT:=g.terms.length) (ess:=ess') λ es hes=>by
   obtain ⟨j,hj⟩:=Qo.1 hes;exact hP.eslen hj
  rw[hTe]at this;have h2:=hP.es.len;have h3:ess'.length*130<=256*130:=Qbr _ (by omega);omega
 have hTs:∀x∈T,x.1<65536/\0<=x.2/\x.2<65536:=λ ⟨q,s⟩ hx=>by
  obtain ⟨h1,h2⟩:=(hmem q s).1 hx;rw[<-hTe,Go.Px.Cn.mem_trL]at hx;obtain ⟨_,es,h3,h4⟩:=hx;obtain ⟨e,he,rfl⟩:=Qr.1 h4;have h5:=(hP.sym h3 he).1;have h6:=(Qa.1 h3).1;have h7:=hP.es.len;exact ⟨by show q<65536;omega,by show 0<=e.1;omega,by show e.1<65536;omega⟩
 rw[hTe]at sT |-;have t3:=t2.seq sT;have yw:=t3.box 0 rfl;have yf:=yw.2.1;have yw8:=yw.1.2.2.2.2.2.2.2.2.1;have t4:=t3.set 0 rfl 8 (.slice At T.length T.length);have y6:=(hgr3 _ t4.chg).k;unfold Zs.b1_2;simp -dsimp[go_sem,yf,yw8,y6];have hg5:=Zx hg (((s3.chg.trans t4.chg)).below hB λ _ _=>id);have hB5:B<=(w5.setCell ⟨pb,8,none⟩ (.slice At T.length T.length)).heap.size:=by have:=t4.chg.size;have:=hcw13.size;omega
 have hD5:Deb (w5.setCell ⟨pb,8,none⟩ (.slice At T.length T.length)):=hD.chg (s3.chg.trans t4.chg) id;clear y4 y6 yw yf yw8 t3;generalize w5.setCell ⟨pb,8,none⟩ (.slice At T.length T.length)=w6 at t4 hg5 hB5 hD5 |-;refine Zi (Zpu hg5 hB5 hcl hD5) ?_;rintro _ w7 ⟨nb,vc,null,rfl,hnl,hnul,sN⟩;have t5:=t4.seq sN;have yw:=t5.box 0 rfl;have yf:=yw.2.1;have yw11:=yw.1.2.2.2.2.2.2.2.2.2.2.2.1;have t6:=t5.set 0 rfl 11 (.slice (some ⟨nb,g.terms.length,none⟩) g.nons.length vc);unfold Zs.b1_1;simp -dsimp[go_sem,yf,yw11];clear yw yf yw11 t5 t4;generalize w7.setCell ⟨pb,11,none⟩ (.slice (some ⟨nb,g.terms.length,none⟩) g.nons.length vc)=w8 at t6 |-;have t7:St noB w3 w8 ([rowC 190 2 At T.length ct (T.flatMap trV),rowC 4 1 (some ⟨nb,0,none⟩) (g.terms.length+g.nons.length) (g.terms.length+g.nons.length) (Zaz null)]++[wdC pb (gU A1 c1 A2 c2 A3 c3 A4 c4 g) A ks'.length c asked (.slice At T.length T.length) ma mt (.slice (some ⟨nb,g.terms.length,none⟩) g.nons.length vc) (.map (some mp)),mapC Tryz.prog kTr 190 3 (.map (some ma)) 0 (λ _=>0),mapC Tryz.prog kTr 190 3 (.map (some mt)) 0 (λ _=>0),Zdt Tryz.prog kInt 3 (.map (some mp)) 0 (λ _=>none),Ch.all (Zdu 3 1 cN ([]:List (Ent Int Nat)))]):=t6.pick [5,6,0,1,2,3,4] (by decide) rfl;obtain ⟨F,sF,back⟩:=t7.unflat.inAll' 2 rfl;have back:∀w' L'',St F w8 w' L''->St noB w3 w' [rowC 190 2 At T.length ct (T.flatMap trV),rowC 4 1 (some ⟨nb,0,none⟩) (g.terms.length+g.nons.length) (g.terms.length+g.nons.length) (Zaz null),Ch.all L'']:=back;have hup:∀w' L'',St F w8 w' L''->Chg noB w3 w':=λ w' L'' h=>(back w' L'' h).chg
 have rdT:∀w' c1 c2,St noB w3 w' [rowC 190 2 At T.length ct (T.flatMap trV),c1,c2]->(Zq rTrn).at1 w' w'.heap.size (.slice At T.length T.length) T:=λ w' c1 c2 h=>by
  obtain ⟨F',ho,_⟩:=h.get (k:=0) rfl;exact Zki (r:=rTrn) (enc:=trV) ho rfl (λ _ _=>rfl) (by decide) (λ _ _ _=>rfl) (Ql _) (by unfold maxLen;omega)
 refine of_at (λ w' L' h=>rdT w' _ _ (back w' L' h)) hTl hTs sF λ w9 n1 s9=>?_;refine of_to hup hP hau3 (λ w' hc=>(hb3 w' hc).1) s9 λ w10 n2 s10=>?_;refine of_by hup hgr3 hq3 hcl.prods.c1 s10 λ w11 n3 E hE s11=>?_;unfold Zs.b5;have t11:=back _ _ s11
 let d:Wd:=⟨A1,A2,A3,A4,A,At,c1,c2,c3,c4,c,nb,vc,ma,mt,mp,asked,null.drop g.terms.length,λ s=>((E.find? λ x=>x.1=s).map (·.2.1)).getD none,λ s=>((E.find? λ x=>x.1=s).map (·.2.2.1)).getD 0⟩
 refine hR _ _ ⟨s3.chg.trans t11.chg,Or.inr ⟨pb,ks',ess',d,rfl,⟨hP,?_,hnul,λ w' hc=>?_⟩,rfl⟩⟩
 ·show (null.drop g.terms.length).length=_
  rw[Q7,hnl];omega
 have t12:=t11.old hc;obtain ⟨F2,s12,_⟩:=t12.inAll' 2 rfl;refine ⟨by rw[hTe];exact Zyz s12 0 rfl,(s12.box 0 rfl).2.2,hau3.keep t12.chg,?_,?_,λ i hi=>?_,λ q s hq hs=>?_,λ q s hq hs=>?_,λ s hs=>⟨?_,λ i p hp=>?_⟩⟩
 ·rw[hTe];exact rdT _ _ _ t12
 ·exact Rep.up (hgr3 _ t12.chg).r4 (hgr3 _ t12.chg).sz
 ·have hi':g.terms.length+i<null.length:=by
   have:i<(null.drop g.terms.length).length:=hi;rw[Q7]at this;omega
  obtain ⟨cn,_⟩:=Zdo t12 (k:=1) (m:=nb) (N:=g.terms.length+g.nons.length) (ms:=null) rfl (j:=g.terms.length+i) hi'
  show w'.cell? ⟨nb,g.terms.length+i,none⟩=some (.bool ((null.drop g.terms.length)[i]'hi))
  rw[cn,Qb6]
 ·have:=s12.mapGet mTr 1 (f:=atP T T.length) rfl (tr q s) trivial;rw[Ziz hq hs,ZZ76 hnd hq hs]at this;rw[hTe];exact this
 ·have:=s12.mapGet mTr 2 (f:=pU ess' ess'.length []) rfl (tr q s) trivial;rw[Ziz hq hs,ZZ116 hq hs]at this;exact this
 ·have:=s12.mapVGet mBy 3 (f:=fE E) rfl s hs;rw[byE g.prods hE]at this;exact this
 ·rw[show byQ g.prods s=vE E s from (hE s).symm]at hp;unfold vE at hp
  cases hf:E.find? (λ x=>decide (x.1=s)) with
  | none=>rw[hf]at hp;simp at hp
  | some x=>
   rw[hf]at hp;simp at hp;obtain ⟨j,hj,hxs⟩:=Zju hf;obtain ⟨F6,s6,_⟩:=s12.inAll' 4 rfl;have hkr:(Zdu 3 1 cN E)[j]?=some (rowC 3 1 x.2.1 x.2.2.2.length x.2.2.1 (x.2.2.2.flatMap cN)):=by unfold Zdu;rw[Qh,hj];rfl
   obtain ⟨F7,ho,_⟩:=s6.get hkr;obtain ⟨gb,eb,hcell,_⟩:=Zck ho (λ _ _=>rfl) (by decide) hp;refine ⟨gb,?_,?_⟩
   ·show ((E.find? λ x=>x.1=s).map (·.2.1)).getD none=_
    rw[hf];exact eb
   ·have:=hcell 0 _ rfl;simpa using this
theorem Zl7 {w:World}{B:Nat}{v:Value}{l:List Int}(h:(Zq rInt).at1 w B v l)(hB:B<=w.heap.size){g:FuncId}{first cap:Array Value}{p:Int->Bool}
  (hp:∀x∈l,∀w',Chg noB w w'->Ct Tryz.prog g (first.toList++[Value.int .i64 x]++cap.toList).toArray w' λ v w''=>v = .bool (p x)/\Chg noB w' w'') :
  Ct Tryz.prog Zbb.id #[v,.func (.func g) first cap] w λ r w'=>(∃i,r = .int .i64 i/\(0<=i↔l.any p=true)/\i<=l.length)/\Chg noB w w':=by
 refine Zbb.ct λ R hR=>?_;obtain ⟨A,c,rfl,hl,hm,_⟩:=Zz h;unfold Zbb.run;simp -dsimp[go_sem];refine Zbb.l6_intro _ _ _ _ _ _ (λ x w1=>∃k:Nat,x = .int .i64 k/\k<=l.length/\(l.take k).any p=false/\Chg noB w w1) (λ x _=>l.length-iv x) ⟨0,rfl,by omega,by simp,Chg.refl _ _⟩ ?_;rintro _ w1 ⟨k,rfl,hk,hall,hcw⟩ C hC;simp -dsimp[go_sem];refine Za (λ h2=>?_) (λ h2=>?_)<;>simp at h2
 ·obtain ⟨b1,o1,rfl,hb1,hc1,hr1⟩:=Go.Px.ints_at (Rep.below h (hcw.below hB λ _ _=>id)) h2;have wk:=Zcv h2 (Qav hl hm);simp -dsimp[go_sem,h2,hc1];refine Zdx (hp l[k] (Qj h2) _ hcw) ?_;rintro _ w2 ⟨rfl,hc2⟩;refine Za (λ h3=>?_) (λ h3=>?_)
  ·refine hR _ _ ⟨⟨k,rfl,?_,by omega⟩,hcw.trans hc2⟩;refine ⟨λ _=>Qbc.2 ⟨_,Qj h2,h3⟩,λ _=>by omega⟩
  ·simp -dsimp[go_sem,wk];refine hC _ _ ⟨k+1,by simp,by omega,?_,hcw.trans hc2⟩ (by simp[iv];omega);rw[Qd h2,Qdr,hall];simp[h3]
 ·have hka:k=l.length:=by omega
  rw[hka,Qm]at hall;simp -dsimp[go_sem];exact hR _ _ ⟨⟨-1,rfl,by rw[hall];simp,by omega⟩,hcw⟩
theorem Zel {w:World}{B:Nat}{v:Value}{l:List Int}(h:(Zq rInt).at1 w B v l)(hB:B<=w.heap.size){g:FuncId}{first cap:Array Value}{p:Int->Bool}
  (hp:∀x∈l,∀w',Chg noB w w'->Ct Tryz.prog g (first.toList++[Value.int .i64 x]++cap.toList).toArray w' λ v w''=>v = .bool (p x)/\Chg noB w' w'') :
  Ct Tryz.prog Zar.id #[v,.func (.func g) first cap] w λ r w'=>r = .bool (l.any p)/\Chg noB w w':=by
 refine Zar.ct λ R hR=>?_;unfold Zar.run;simp -dsimp[go_sem];refine Zi (Zl7 h hB hp) ?_;rintro _ w1 ⟨⟨i,rfl,hi,_⟩,hc⟩;simp -dsimp[go_sem];refine hR _ _ ⟨?_,hc⟩;congr 1;cases ha:l.any p
 ·rw[ha]at hi;simpa using hi
 ·rw[ha]at hi;simpa using hi
theorem Zn7 {w:World}{pb pw:Nat}{g:Gr}{ks:List (List It)}{ess:List (List (Int×Nat))}{d:Wd}(h:WoR w pb g ks ess d)(hw:w.cell? ⟨pw,0,none⟩=some (.pointer (some ⟨pb,0,none⟩))){x:Int}(hx:0<=x/\x<g.terms.length+g.nons.length) :
  Ct Tryz.prog Zbz.id #[.int .i64 x,.pointer (some ⟨pw,0,none⟩)] w λ v w'=>v = .bool (!(vanS g.terms.length d.ms x))/\Chg noB w w':=by
 refine Zbz.ct λ R hR=>?_;have hf:=h.here;have y:=hf.cells;simp[Zw]at y;have hT1:=h.aut.cl.syms.t1;have hN1:=h.aut.cl.syms.n1;unfold Zbz.run;simp -dsimp[go_sem,hw,y];refine Za (λ p1=>?_) (λ p1=>?_)<;>simp at p1
 ·refine hR _ _ ⟨?_,(Chg.refl _ _).drew⟩;congr 1;unfold vanS;rw[decide_eq_false (by omega)];rfl
 ·obtain ⟨i,rfl⟩:∃i:Nat,x=(g.terms.length+i:Nat):=⟨(x-g.terms.length).toNat,by omega⟩;have hi:i<d.ms.length:=by rw[h.msl];omega
  have hi2:i<g.nons.length:=by omega
  have wi:IntKind.i64.wrap (((g.terms.length+i:Nat):Int)-(g.terms.length:Int))=(i:Int):=by rw[IntWalk.i64_in _ (by omega)];omega
  have wi':IntKind.i64.wrap ((g.terms.length:Int)+(i:Int)-(g.terms.length:Int))=(i:Int):=by rw[IntWalk.i64_in _ (by omega)];omega
  have hv:=hf.van i hi;simp -dsimp[go_sem,hw,y,wi,wi',hi2,hv];refine hR _ _ ⟨?_,(Chg.refl _ _).drew⟩;congr 2;unfold vanS;rw[decide_eq_true (by omega),Qcm];have:((g.terms.length+i:Nat):Int)-(g.terms.length:Int)=(i:Int):=by omega
  rw[this];simp[Qc,hi]
theorem Zm3 {w:World}{pb B:Nat}{g:Gr}{ks:List (List It)}{ess:List (List (Int×Nat))}{d:Wd}{v:Value}{l:List Int}(h:WoR w pb g ks ess d)(hl:(Zq rInt).at1 w B v l)(hB:B<=w.heap.size)(hx:∀x∈l,0<=x/\x<g.terms.length+g.nons.length) :
  Ct Tryz.prog Zb8.id #[.pointer (some ⟨pb,0,none⟩),v] w λ r w'=>r = .bool (l.all (vanS g.terms.length d.ms))/\Chg noB w w':=by
 refine Zb8.ct λ R hR=>?_;unfold Zb8.run;have s1:=(St.refl noB w).alloc #[.pointer (some ⟨pb,0,none⟩)] 180;simp -dsimp[go_sem];generalize w.alloc (.cells #[.pointer (some ⟨pb,0,none⟩)] 180)=w1 at s1 |-;generalize w.heap.size=q at s1 |-;refine Zi (Zel (p:=λ x=> !(vanS g.terms.length d.ms x)) (Rep.below hl (s1.chg.below hB λ _ _=>id)) (by have:=s1.chg.size;omega) λ x hxl w' hc=>?_) ?_
 ·exact Zn7 (h.keep (s1.chg.trans hc)) ((s1.old hc).box 0 rfl).1.1 (hx x hxl)
 ·rintro _ w2 ⟨rfl,hc⟩;simp -dsimp[go_sem];refine hR _ _ ⟨?_,s1.chg.trans hc⟩;congr 1;simp[List.all_eq_not_any_not]
theorem WoR.gt {w:World}{pb:Nat}{g:Gr}{ks:List (List It)}{ess:List (List (Int×Nat))}{d:Wd}(h:WoR w pb g ks ess d){q r:Nat}{s:Int}(hg:Gt g.prods ks q s r):q<256/\r<256/\1<=r/\1<=s/\s<g.terms.length+g.nons.length/\∃n:Nat,s=n/\n<65536/\toV ess q n=(r:Int)+1:=by
 obtain ⟨⟨es,h1,h2⟩,h3⟩:=h.aut.gt hg;obtain ⟨h4,h5,h6⟩:=h.aut.sym h1 h2;have hl:=h.aut.len;have hql:=(Qa.1 h1).1;have he:=h.aut.es.len;have hT1:=h.aut.cl.syms.t1;have hN1:=h.aut.cl.syms.n1;simp only at h4 h5 h6;refine ⟨by omega,by omega,h5,h4.1,h4.2.1,s.toNat,by omega,by omega,ZZ184 ?_ (by omega)⟩;rw[show ((s.toNat:Nat):Int)=s by omega];exact h3
theorem Zrk {w:World}{pb B:Nat}{g:Gr}{ks:List (List It)}{ess:List (List (Int×Nat))}{d:Wd}{v:Value}{l:List Int}{qs:Nat->Nat}{fid:FuncId}{first cap:Array Value}(J:Nat->World->Prop)(hJ:J 0 w)
  (hw:∀k w',J k w'->WoR w' pb g ks ess d) (hl:∀k w',J k w'->(Zq rInt).at1 w' B v l) (hn:l.length<=100000) (hq:∀k (h:k<l.length),Gt g.prods ks (qs k) l[k] (qs (k+1)))
  (hstep:∀k (h:k<l.length) w',J k w'->Ct Tryz.prog fid (first.toList++[Value.int .i64 (qs k),.int .i64 k]++cap.toList).toArray w' λ _ w''=>J (k+1) w'') :
  Ct Tryz.prog Zbo.id #[.pointer (some ⟨pb,0,none⟩),.int .i64 (qs 0),v,.func (.func fid) first cap] w λ r w'=>r = .int .i64 (qs l.length)/\J l.length w':=by
 refine Zbo.ct λ R hR=>?_;obtain ⟨A,c,rfl,hlc,hm,_⟩:=Zz (hl 0 w hJ);unfold Zbo.run;simp -dsimp[go_sem];refine Zbo.l6_intro _ _ _ _ _ _ _ _ (λ x y w'=>∃k:Nat,x = .int .i64 (qs k)/\y = .int .i64 k/\k<=l.length/\J k w') (λ _ y _=>l.length-iv y)
  ⟨0,rfl,rfl,Qy _,hJ⟩ ?_
 rintro _ _ w1 ⟨k,rfl,rfl,hk,hJ1⟩ C hC;simp -dsimp[go_sem];refine Za (λ p1=>?_) (λ p1=>?_)<;>simp at p1
 ·have wk:=wS k (by omega);obtain ⟨b1,o1,rfl,hb1,hc1,hr1⟩:=Go.Px.ints_at (hl k w1 hJ1) p1;have hgt:=hq k p1;obtain ⟨sy,hsy⟩:∃sy,l[k]=sy:=⟨_,rfl⟩;rw[hsy]at hgt hc1;obtain ⟨g1,g2,g3,g4,g5,n,rfl,g6,g7⟩:=(hw k w1 hJ1).gt hgt;simp -dsimp[go_sem,p1,hc1];refine Zdx (hstep k p1 w1 hJ1) ?_;rintro v2 w2 hJ2;have hf:=(hw _ w2 hJ2).here;have y:=hf.cells;simp[Zw]at y;have hlk:=hf.to_ (qs k) n (by omega) g6;rw[g7]at hlk;have wr:IntKind.i64.wrap ((qs (k+1):Nat):Int)=((qs (k+1):Nat):Int):=IntWalk.i64_in _ (by omega);simp -dsimp[go_sem,y,hlk,wk,wr];exact hC _ _ _ ⟨k+1,rfl,by simp,by omega,hJ2⟩ (by simp[iv];omega)
 ·have:k=l.length:=by omega
  subst this;unfold Zbo.b3;exact hR _ _ ⟨rfl,hJ1⟩
open Go.Proofs Go.Shelf
def Zp4:Go.Shelf.Ren:=⟨fun | 20=>267 | n=>n,fun | 22=>24 | n=>n,fun | n=>n⟩
theorem ZZ74:Go.Proofs.Lays2.n20 Tryz.prog Zp4 where
 mixed:=by kernel_rfl
 f20:=Tryz.func267.trans (congrArg some (by kernel_rfl))
 t0:=Tryz.underlying0
 a0:=Tryz.isAgg0
 z0:=Tryz.sizeOf0
 v0:=Tryz.zeroValue0
 t3:=Tryz.underlying3
 a3:=Tryz.isAgg3
 z3:=Tryz.sizeOf3
 v3:=Tryz.zeroValue3
 t4:=Tryz.underlying4
 a4:=Tryz.isAgg4
 z4:=Tryz.sizeOf4
 v4:=Tryz.zeroValue4
 t22:=Tryz.underlying24
 a22:=Tryz.isAgg24
 z22:=Tryz.sizeOf24
 v22:=Tryz.zeroValue24
 i3:=by kernel_rfl
open Go.Lib Go.Sort
theorem Zml (d:Array Int):∀m x,x∈compactUpTo d m↔∃j,j<m/\d[j]! = x
 | 0,x=>by simp[compactUpTo]
 | m+1,x=>by
  rw[compactUpTo_succ,Qk,Zml d m]
  constructor
  ·rintro (⟨j,h1,h2⟩|h)
   ·exact ⟨j,by omega,h2⟩
   ·by_cases hk:keeps d m=true
    ·rw[if_pos hk,Qg]at h
     exact ⟨m,by omega,h.symm⟩
    ·rw[if_neg hk]at h;cases h
  ·rintro ⟨j,h1,h2⟩
   by_cases hj:j<m
   ·exact Or.inl ⟨j,hj,h2⟩
   ·have:j=m:=by omega
    subst this
    by_cases hk:keeps d j=true
    ·rw[if_pos hk];exact Or.inr (by simp[h2])
    ·unfold keeps at hk
     rw[decide_eq_true_eq,not_or,Classical.not_not]at hk
     exact Or.inl ⟨j-1,by omega,by rw[<-hk.2];exact h2⟩
theorem Zqq (d:Array Int)(n:Nat)(hs:∀i j,i<=j->j<n->d[i]!<=d[j]!):∀m,m<=n->(compactUpTo d m).Pairwise (· < ·)
 | 0,_=>by simp[compactUpTo]
 | m+1,hm=>by
  rw[compactUpTo_succ]
  refine Qao.2 ⟨Zqq d n hs m (by omega),by split<;>simp,λ a ha b hb=>?_⟩
  by_cases hk:keeps d m=true
  ·rw[if_pos hk,Qg]at hb
   subst hb
   obtain ⟨j,h1,h2⟩:=(Zml d m a).1 ha
   unfold keeps at hk
   rw[decide_eq_true_eq]at hk
   have h3:=hs j (m-1) (by omega) (by omega)
   have h4:=hs (m-1) m (by omega) (by omega)
   have h5:d[m]!≠d[m-1]!:=by
    rcases hk with h|h
    ·omega
    ·exact h
   omega
  ·rw[if_neg hk]at hb;cases hb
theorem Zrn (d:Array Int):∀m,(compactUpTo d m).length<=m
 | 0=>by simp[compactUpTo]
 | m+1=>by
  rw[compactUpTo_succ,Qq]
  have:=Zrn d m
  split<;>simp<;>omega
theorem Zow {G:Nat->Prop}{W w:World}{L:List Ch}{k c:Nat}{a:Addr}{l:List Int}(s:St G W w L)(hk:L[k]?=some (qC 1 a l.length c (ints l)))(hn:l.length<=1000000000)(hsr:l.Pairwise (·<=·)) :
  Ct Tryz.prog Za7.id #[.slice (some a) l.length c] w λ v w'=>∃l':List Int,v = .slice (some a) l'.length c/\l'.Pairwise (· < ·)/\(∀x,x∈l'↔x∈l)/\l'.length<=l.length/\St G W w' (L.set k (qC 1 a l'.length c (ints l'))):=by
 obtain ⟨F,ho,hF,hs⟩:=s.opn hk;obtain ⟨h1,h2,h3,h4,h5,h6,h7,h8,h9⟩:=id ho;obtain ⟨g,o,sp⟩:=a;simp only at h4 h5 h6 h7 h8 h9;subst h4;have hH:Holds encI w g o l.toArray:=λ j hj=>by
  have hj':j<l.length:=by simpa using hj
  refine ⟨h7 j _ ?_,h9 _⟩;unfold ints;rw[Qh,Qb hj'];have:l.toArray[j]! = l[j]:=by simp[hj']
  rw[this];rfl
 have hcon:=Any.slices_Compact_int_arr ZZ74 g o c l.toArray w hH (by simp;omega) (by simpa using h2);refine ⟨enters_of Tryz.func267 (by kernel_rfl) rfl,?_⟩;change Calls Tryz.prog 267 _ _ _ at hcon;have hsz:l.toArray.size=l.length:=by simp
 rw[hsz]at hcon;refine hcon.mono λ e w' he=>?_;obtain ⟨rfl,m,rfl⟩:=he;obtain ⟨l',hl'⟩:∃l',compactUpTo l.toArray l.length=l':=⟨_,rfl⟩;have hget:∀j (h:j<l.length),l.toArray[j]! = l[j]:=λ j h=>by simp[h]
 have hlt:l'.Pairwise (· < ·):=by
  rw[<-hl'];refine Zqq _ l.length (λ i j hij hj=>?_) _ (Ql _);rw[hget i (by omega),hget j hj];by_cases e:i=j
  ·subst e;exact Qdu _
  ·exact (Qt.1 hsr) i j (by omega) hj (by omega)
 have hmem:∀x,x∈l'↔x∈l:=λ x=>by
  rw[<-hl',Zml];constructor
  ·rintro ⟨j,h1,h2⟩;rw[hget j h1]at h2;exact h2 ▸ Qj h1
  ·intro h;obtain ⟨j,h1,h2⟩:=Q3 h;exact ⟨j,h1,by rw[hget j h1];exact h2⟩
 have hlen:l'.length<=l.length:=by rw[<-hl'];exact Zrn _ _
 rw[hl'];have hlen2:(l'++List.replicate (l.length-l'.length) (0:Int)).toArray.size=l.toArray.size:=by simp;omega
 have hH2:=holds_putRow encI (Sort.ahead w m) g o l.toArray (l'++List.replicate (l.length-l'.length) (0:Int)).toArray (holds_ahead _ _ _ _ _ _ hH) hlen2;refine ⟨l',rfl,hlt,hmem,hlen,hs _ _ ⟨rfl,rfl,rfl,?_,λ i hi hF'=>?_⟩ ⟨by simp[ints],by omega,h3,rfl,Or.inl h5,?_,λ j u hj=>?_,λ j hj=>?_,λ j=>?_⟩⟩
 ·simp
 ·show (Array.modify w.heap g _)[i]?=w.heap[i]?
  rw[Qc4,if_neg (λ e:g=i=>hF' (e ▸ h5))]
 ·simp;omega
 ·have hjl:j<l'.length:=by have:=(Qa.1 hj).1;simpa[ints]using this
  rw[(hH2 j (by simp;omega)).1];unfold ints at hj;rw[Qh,Qb hjl]at hj;have:(l'++List.replicate (l.length-l'.length) (0:Int)).toArray[j]! = l'[j]:=by
   have hj2:j<l'.length+(l.length-l'.length):=by omega
   simp[hj2,List.getElem_append_left hjl]
  rw[this];exact hj
 ·by_cases hjl:j<l.length
  ·rw[(hH2 j (by simp;omega)).1];rfl
  ·rw[cell?_putRow_other]
   ·exact h8 j hj
   ·refine Or.inr (Or.inr ?_);rw[hlen2,hsz]
    show o+l.length<=o+j
    omega
 ·rw[frozen?_putRow];exact h9 j
theorem Zoy {w:World}{p:Option Addr}{c:Nat}:Ct Tryz.prog Za7.id #[.slice p 0 c] w λ v w'=>v = .slice p 0 c/\w'=w:=by
 refine Za7.ct λ R hR=>?_;unfold Za7.run;simp -dsimp[go_sem];exact hR _ _ ⟨rfl,rfl⟩
theorem Zmd {w:World}{a:Option Addr}{n c:Nat}(h:n<=c):Ct Tryz.prog Zbt.id #[.slice a n c] w λ v w'=>v = .slice a n n/\w=w':=by
 refine Zbt.ct λ R hR=>?_;unfold Zbt.run
 cases a with
 | none=>
  simp -dsimp[go_sem,h];exact hR _ _ ⟨rfl,rfl⟩
 | some a=>
  simp -dsimp[go_sem,h];exact hR _ _ ⟨rfl,rfl⟩
attribute [-go_sem] Zv.b3 Zv.b7_1 Zv.b7_2 Zv.b7_3 Zv.b4
abbrev GRow:=Option Addr×Nat×List Int
def slV (x:GRow):Value := .slice x.1 x.2.2.length x.2.1
def inC (x:GRow):Ch:=rowC 3 1 x.1 x.2.2.length x.2.1 (ints x.2.2)
def Zes (vb ob:Nat)(R:List GRow):List Ch :=
 [boxC vb 50 [.slice (some ⟨ob,0,none⟩) R.length R.length],rowC 24 1 (some ⟨ob,0,none⟩) R.length R.length (R.map slV),Ch.all (R.map inC)]
theorem uGrid:Tryz.prog.underlying 50=some (.slice 24):=Tryz.underlying50
theorem Zut:(Tryz.prog.info? 24).map (λ i=>(i.zero,i.size,i.bytes))=some (some (.slice none 0 0),1,24):=by kernel_rfl
theorem Zz2 (w:World)(n:Nat)(h:n<=1000000):(Instr.makeSlice 50 (.int .i64 n) (.int .i64 n)).run Tryz.prog w = .ok (.slice (some ⟨w.heap.size,0,none⟩) n n) (w.alloc (.cells (Array.replicate n (Value.slice none 0 0)) 24)):=by
 obtain ⟨i0,hi,hz0,hz1,hz2⟩:=info_parts Zut;have:=run_make (P:=Tryz.prog) w 50 24 i0 _ Tryz.underlying50 hi hz0 .i64 .i64 n n (by omega) (by omega) (by rw[hz2];omega) (by omega);rw[this];have e:madeCells (Value.slice none 0 0).cells ((n:Int).toNat*i0.size)=Array.replicate n (Value.slice none 0 0):=by
  rw[hz1,Qb7,Qax];have:=toList_madeCells_one (Value.slice none 0 0) n;apply Qcx.1;rw[Qa8];exact this
 rw[e];simp
theorem Ze1 {w:World}{L:List Ch}{G:Nat->Prop}{W:World}(s:St G W w L)(k:Nat){ob n:Nat}{R:List GRow}(hk:L[k]?=some (rowC 24 1 (some ⟨ob,0,none⟩) n n (R.map slV))){i:Nat}{x:GRow}(hx:R[i]?=some x):w.cell? ⟨ob,i,none⟩=some (slV x)/\w.frozen? ⟨ob,i,none⟩=false/\i<n:=by
 have hl:=s.rowSize k hk;have hi:=(Qa.1 hx).1;obtain ⟨g,e,h1,h2⟩:=s.rowAt k hk (j:=i) (by simpa using hi);injection e with e;injection e with e;subst e;refine ⟨?_,h2,?_⟩
 ·rw[h1,Q8,(Qa.1 hx).2]
 ·have:=hl.1;rw[Qp]at this;omega
theorem Ztz {G:Nat->Prop}{W w:World}{vb ob:Nat}{R:List GRow}{M:List Ch}(s:St G W w (Zes vb ob R++M)){i j:Nat}{x:GRow}(hx:R[i]?=some x)(hl:x.2.2.length<=1000000000)(hj:j<=1000000) :
  Ct Tryz.prog Za6.id #[.int .i64 i,.int .i64 j,.pointer (some ⟨vb,0,none⟩)] w λ v w'=>∃a c,St G W w' (Zes vb ob (R.set i (a,c,x.2.2++[(j:Int)]))++M):=by
 refine Za6.ct λ Q hQ=>?_;have y:=(s.box 0 rfl).1;have yl:=(s.box 0 rfl).2.2;simp[Zw]at y;obtain ⟨z1,z2,z3⟩:=Ze1 s 1 rfl hx;have z1:w.cell? ⟨ob,i,none⟩=some (.slice x.1 x.2.2.length x.2.1):=z1;have hob:ob<w.heap.size:=World.block_lt_of_cell? _ _ z1;have s1:=s.old (Chg.refl noB w).drew;have hnew:=Zdj w.drew [.int .i64 j] 3 rfl;unfold Za6.run;simp -dsimp[go_sem,y,yl,z1,z3,hob];obtain ⟨F,sF,back⟩:=s1.inAll' 2 rfl;have hkr:(R.map inC)[i]?=some (rowC 3 1 x.1 x.2.2.length x.2.1 (ints x.2.2)):=by rw[Qh,hx];rfl
 refine sF.append1 i hkr Zgn iInt rfl (by decide) (news:=[.int .i64 j]) rfl (by simp[Value.oneCell']) (by unfold maxLen;omega) (by unfold Zaf;omega) ?_;intro gA cap w2 s2;have s3:=back w2 _ s2;have s3:St G W w2 ([boxC vb 50 [.slice (some ⟨ob,0,none⟩) R.length R.length],rowC 24 1 (some ⟨ob,0,none⟩) R.length R.length (R.map slV),Ch.all ((R.map inC).set i (rowC 3 1 (some ⟨gA,0,none⟩) (x.2.2.length+1) cap (ints x.2.2++[.int .i64 j])))]++M):=s3;have y3:=(s3.box 0 rfl).1;simp[Zw]at y3;obtain ⟨q1,q2,_⟩:=Ze1 s3 1 rfl hx;have s4:=s3.setRow 1 rfl i (.slice (some ⟨gA,0,none⟩) (x.2.2.length+1) cap);simp -dsimp[go_sem,y3,q1,q2,z3];refine hQ _ _ ⟨some ⟨gA,0,none⟩,cap,?_⟩;have e1:(R.map slV).set i (.slice (some ⟨gA,0,none⟩) (x.2.2.length+1) cap)=(R.set i (some ⟨gA,0,none⟩,cap,x.2.2++[(j:Int)])).map slV:=by
  rw[Qap];simp[slV]
 have e2:(R.map inC).set i (rowC 3 1 (some ⟨gA,0,none⟩) (x.2.2.length+1) cap (ints x.2.2++[.int .i64 j]))=(R.set i (some ⟨gA,0,none⟩,cap,x.2.2++[(j:Int)])).map inC:=by
  rw[Qap];simp[inC,ints]
 unfold Zes;rw[Qau,<-e1,<-e2];exact s4
def lnC (x:GRow):Ch where
 ok w F:=x.2.2.length<=x.2.1/\(x.2.2=[]\/∃g,x.1=some g/\(qC 1 g x.2.2.length x.2.1 (ints x.2.2)).ok w F)
 keep h hc hX hF:=⟨h.1,h.2.imp id λ ⟨g,e,h⟩=>⟨g,e,(qC 1 g x.2.2.length x.2.1 (ints x.2.2)).keep h hc hX hF⟩⟩
theorem in_ln {w:World}{F:Nat->Prop}{x:GRow}(h:(inC x).ok w F):(lnC x).ok w F:=by
 obtain ⟨h1,h2,h3⟩:=Zee (show (rowC 3 1 x.1 x.2.2.length x.2.1 (ints x.2.2)).ok w F from h);refine ⟨h2,?_⟩;by_cases hl:x.2.2=[]
 ·exact Or.inl hl
 ·obtain ⟨g,e,_⟩:=Zra (show (rowC 3 1 x.1 x.2.2.length x.2.1 (ints x.2.2)).ok w F from h) (j:=0) (by unfold ints;rw[Qp];exact Qa6.2 hl);refine Or.inr ⟨_,e,Znk (e:=3) ?_⟩;have h':(rowC 3 1 x.1 x.2.2.length x.2.1 (ints x.2.2)).ok w F:=h;rwa [e]at h'
theorem Zy9 {G:Nat->Prop}{W w:World}{L:List Ch}(s:St G W w L){k:Nat}{x:GRow}(hk:L[k]?=some (lnC x))(hn:x.2.2.length<=1000000000) :
  Ct Tryz.prog Zcf.id #[slV x] w λ v w'=>v = .tuple #[]/\∃l':List Int,l'.Perm x.2.2/\l'.Pairwise (·<=·)/\St G W w' (L.set k (lnC (x.1,x.2.1,l'))):=by
 have hkl:=(Qa.1 hk).1;obtain ⟨F,⟨h1,h2⟩,_⟩:=s.get hk;obtain ⟨a,c,l⟩:=x;unfold slV;simp only at h1 h2 hn |-;rcases h2 with rfl|⟨g,rfl,h2⟩
 ·refine (Zmf).mono λ v w'=>?_;rintro ⟨rfl,rfl⟩;exact ⟨rfl,[],List.Perm.refl _,List.Pairwise.nil,s.turn hk λ F h=>h⟩
 ·by_cases hl:l=[]
  ·subst hl;refine (Zmf).mono λ v w'=>?_;rintro ⟨rfl,rfl⟩;exact ⟨rfl,[],List.Perm.refl _,List.Pairwise.nil,s.turn hk λ F h=>h⟩
  have s1:=s.turn hk (d:=qC 1 g l.length c (ints l)) λ F h=>by
   rcases h.2 with h|⟨g',e,h⟩
   ·exact absurd h hl
   ·injection e with e;subst e;exact h
  refine (Zqy s1 (Qn hkl) hn).mono λ v w'=>?_;rintro ⟨rfl,l',hp,hsr,s2⟩;rw[Qbe]at s2;refine ⟨rfl,l',hp,hsr,?_⟩;have:=s2.turn (k:=k) (Qn hkl) (d:=lnC (some g,c,l')) λ F h=>⟨by have:=hp.length_eq;simp only;omega,Or.inr ⟨g,rfl,h⟩⟩;rw[Qbe]at this;exact this
theorem Zpe {G:Nat->Prop}{W w:World}{L:List Ch}(s:St G W w L){k:Nat}{x:GRow}(hk:L[k]?=some (lnC x))(hn:x.2.2.length<=1000000000)(hsr:x.2.2.Pairwise (·<=·)) :
  Ct Tryz.prog Za7.id #[slV x] w λ v w'=>∃l':List Int,v=slV (x.1,x.2.1,l')/\l'.Pairwise (· < ·)/\(∀y,y∈l'↔y∈x.2.2)/\l'.length<=x.2.1/\St G W w' (L.set k (lnC (x.1,x.2.1,l'))):=by
 have hkl:=(Qa.1 hk).1;obtain ⟨F,⟨h1,h2⟩,_⟩:=s.get hk;obtain ⟨a,c,l⟩:=x;unfold slV;simp only at h1 h2 hn hsr |-;by_cases hl:l=[]
 ·subst hl;refine (Zoy).mono λ v w'=>?_;rintro ⟨rfl,rfl⟩;exact ⟨[],rfl,List.Pairwise.nil,λ _=>Iff.rfl,by simp,s.turn hk λ F h=>h⟩
 rcases h2 with h2|⟨g,rfl,h2⟩
 ·exact absurd h2 hl
 ·have s1:=s.turn hk (d:=qC 1 g l.length c (ints l)) λ F h=>by
   rcases h.2 with h|⟨g',e,h⟩
   ·exact absurd h hl
   ·injection e with e;subst e;exact h
  refine (Zow s1 (Qn hkl) hn hsr).mono λ v w'=>?_;rintro ⟨l',rfl,hlt,hm,hle,s2⟩;rw[Qbe]at s2;refine ⟨l',rfl,hlt,hm,by omega,?_⟩;have:=s2.turn (k:=k) (Qn hkl) (d:=lnC (some g,c,l')) λ F h=>⟨by simp only;omega,Or.inr ⟨g,rfl,h⟩⟩;rw[Qbe]at this;exact this
theorem Ztu {w:World}{F:Nat->Prop}{x:GRow}(h:(lnC x).ok w F):(lnC (x.1,x.2.2.length,x.2.2)).ok w F:=by
 refine ⟨Ql _,h.2.imp id λ ⟨g,e,h1,h2,h3,h4,h5,h6,h7,h8,h9⟩=>⟨g,e,?_⟩⟩;exact ⟨h1,Ql _,Qav h2 h3,h4,h5,h6,h7,λ j hj=>h8 j (by simp only at hj;omega),h9⟩
def Zwh (vb ob:Nat)(R:List GRow):List Ch :=
 [boxC vb 50 [.slice (some ⟨ob,0,none⟩) R.length R.length],rowC 24 1 (some ⟨ob,0,none⟩) R.length R.length (R.map slV),Ch.all (R.map lnC)]
theorem ZZ127 {R:List GRow}{w:World}{F:Nat->Prop}(h:(Ch.all (R.map inC)).ok w F):(Ch.all (R.map lnC)).ok w F:=by
 obtain ⟨T,ht,hk⟩:=h;refine ⟨T,ht,λ k c hc=>?_⟩;rw[Qh]at hc;obtain ⟨x,hx,rfl⟩:=Q4.1 hc;exact in_ln (hk k _ (by rw[Qh,hx];rfl))
theorem Zyd {W w:World}{vb ob i:Nat}{R:List GRow}{Q:EP}{C6:VP}{x:GRow}(s:St noB W w (Zwh vb ob R))(hx:R[i]?=some x)(hl:x.2.2.length<=1000000000)(hi:i<100000)
  (hgo:∀w' l',l'.Pairwise (· < ·)->(∀y,y∈l'↔y∈x.2.2)->St noB W w' (Zwh vb ob (R.set i (x.1,l'.length,l')))->C6 (.int .i64 (i+1:Nat)) w') :
  Zv.b7_3 Q C6 (.pointer (some ⟨vb,0,none⟩)) (.int .i64 i) w:=by
 have wi:=wS i (by omega);have y:=(s.box 0 rfl).1;have yl:=(s.box 0 rfl).2.2;simp[Zw]at y;obtain ⟨z1,z2,z3⟩:=Ze1 s 1 rfl hx;have z1:w.cell? ⟨ob,i,none⟩=some (slV x):=z1;unfold Zv.b7_3;simp -dsimp[go_sem,y,z1,z3];obtain ⟨F,sF,back⟩:=s.inAll' 2 rfl;have hkr:(R.map lnC)[i]?=some (lnC x):=by rw[Qh,hx];rfl
 refine Zi (Zy9 sF hkr hl) ?_;rintro _ w1 ⟨rfl,l1,hp1,hs1,s1⟩;have t1:=back w1 _ s1;have t1:St noB W w1 [boxC vb 50 [.slice (some ⟨ob,0,none⟩) R.length R.length],rowC 24 1 (some ⟨ob,0,none⟩) R.length R.length (R.map slV),Ch.all ((R.map lnC).set i (lnC (x.1,x.2.1,l1)))]:=t1;have y1:=(t1.box 0 rfl).1;have yl1:=(t1.box 0 rfl).2.2;simp[Zw]at y1;obtain ⟨z11,_,_⟩:=Ze1 t1 1 rfl hx;have hob1:ob<w1.heap.size:=World.block_lt_of_cell? _ _ z11;unfold Zv.b7_2;simp -dsimp[go_sem,y1,yl1,z11,z3,hob1];have hlen1:l1.length=x.2.2.length:=hp1.length_eq;have e0:slV x=slV (x.1,x.2.1,l1):=by unfold slV;rw[hlen1]
 rw[e0];have t1d:=t1.old (Chg.refl noB w1).drew;obtain ⟨F1,sF1,back1⟩:=t1d.inAll' 2 rfl;have hil:=(Qa.1 hkr).1;refine Zi (Zpe sF1 (x:=(x.1,x.2.1,l1)) (Qn hil) (by simp only;omega) hs1) ?_;rintro _ w2 ⟨l2,rfl,hlt2,hm2,hle2,s2⟩;have t2:=back1 w2 _ s2;have t2:St noB W w2 [boxC vb 50 [.slice (some ⟨ob,0,none⟩) R.length R.length],rowC 24 1 (some ⟨ob,0,none⟩) R.length R.length (R.map slV),Ch.all (((R.map lnC).set i (lnC (x.1,x.2.1,l1))).set i (lnC (x.1,x.2.1,l2)))]:=t2;rw[Qbe]at t2;have y2:=(t2.box 0 rfl).1;simp[Zw]at y2;obtain ⟨q1,q2,_⟩:=Ze1 t2 1 rfl hx;simp -dsimp[go_sem,y2,slV];refine Zi (Zmd hle2) ?_;rintro _ _ ⟨rfl,rfl⟩;have t3:=t2.setRow 1 rfl i (.slice x.1 l2.length l2.length);unfold Zv.b7_1;simp -dsimp[go_sem,y2,q1,q2,z3,wi];refine hgo _ l2 hlt2 (λ y=>(hm2 y).trans hp1.mem_iff) ?_;have t3:St noB W _ [boxC vb 50 [.slice (some ⟨ob,0,none⟩) R.length R.length],rowC 24 1 (some ⟨ob,0,none⟩) R.length R.length ((R.map slV).set i (.slice x.1 l2.length l2.length)),Ch.all ((R.map lnC).set i (lnC (x.1,x.2.1,l2)))]:=t3;unfold Zwh;rw[Qau,Qap,Qap];refine t3.turn (k:=2) rfl λ F h=>?_;obtain ⟨T,ht,hk⟩:=h;refine ⟨T,ht,λ k c hc=>?_⟩;by_cases e:i=k
 ·subst e;rw[Qn hil]at hc;injection hc with hc;subst hc;exact Ztu (x:=(x.1,x.2.1,l2)) (hk i _ (Qn hil))
 ·rw[Qs e]at hc;exact hk k c (by rw[Qs e];exact hc)
def Zpn (w:World)(v:Value)(E:List (List Int)):Prop:=∃ob c,v = .slice (some ⟨ob,0,none⟩) E.length c/\ob<w.heap.size/\∀(i:Nat) l,E[i]?=some l->∃a,w.cell? ⟨ob,i,none⟩=some (.slice a l.length l.length)/\(Zq rInt).at1 w w.heap.size (.slice a l.length l.length) l
theorem Zpn.keep {w w':World}{v:Value}{E:List (List Int)}(h:Zpn w v E)(hc:Chg noB w w'):Zpn w' v E:=by
 obtain ⟨ob,c,rfl,hb,h⟩:=h;refine ⟨ob,c,rfl,Qaj hb hc.size,λ i l hl=>?_⟩;obtain ⟨a,h1,h2⟩:=h i l hl;exact ⟨a,hc.at h1 id,Rep.up (Rep.below h2 (hc.below (Ql _) λ _ _=>id)) hc.size⟩
theorem ln_rd {w:World}{F:Nat->Prop}{a:Option Addr}{l:List Int}(h:(lnC (a,l.length,l)).ok w F)(hi:∀y∈l,Zdf y)(hn:l.length<=1000000000):(Zq rInt).at1 w w.heap.size (.slice a l.length l.length) l:=by
 obtain ⟨h1,h2⟩:=h;simp only at h1 h2;refine ⟨a,l.length,rfl,Ql _,by unfold maxLen;omega,trivial,λ hp=>?_⟩;rcases h2 with h2|⟨g,rfl,h1,h2,h3,h4,h5,h6,h7,h8,h9⟩
 ·rw[h2]at hp;exact absurd hp (by simp)
 ·obtain ⟨g,o,sp⟩:=g;simp only at h4 h6 h7;subst h4;refine ⟨g,o,rfl,h6,λ i x hx=>⟨[.int .i64 x],⟨rfl,hi x (Qe hx)⟩,λ j u hj=>?_⟩⟩;have hj0:j=0:=by have:=(Qa.1 hj).1;simpa using this
  subst hj0;injection hj with hj;subst hj;have:=h7 i (.int .i64 x) (by unfold ints;rw[Qh,hx];rfl);simpa[rInt]using this
theorem Zrg {w:World}{pb:Nat}{g:Gr}{ks:List (List It)}{ess:List (List (Int×Nat))}{d:Wd}(h:WoR w pb g ks ess d)(hTl:(trL g.terms.length ess).length<=40000){fid:FuncId}{first cap:Array Value}(Q:Nat->Int->Prop)(hQi:∀i y,Q i y->Zdf y)
  (heach:∀w1 vb ob,St noB w w1 (Zes vb ob (List.replicate (trL g.terms.length ess).length ((none,0,[]):GRow)))->Ct Tryz.prog fid (first.toList++[Value.func (.func Za6.id) #[] #[.pointer (some ⟨vb,0,none⟩)]]++cap.toList).toArray w1 λ _ w2=>∃R:List GRow,R.length=(trL g.terms.length ess).length/\(∀i x,R[i]?=some x->x.2.2.length<=1000000000/\∀y,y∈x.2.2↔Q i y)/\St noB w w2 (Zes vb ob R)) :
  Ct Tryz.prog Zv.id #[.pointer (some ⟨pb,0,none⟩),.func (.func fid) first cap] w λ v w'=>∃E:List (List Int),E.length=(trL g.terms.length ess).length/\(∀i l,E[i]?=some l->l.Pairwise (· < ·)/\∀y,y∈l↔Q i y)/\Chg noB w w'/\Zpn w' v E:=by
 refine Zv.ct λ R hR=>?_;obtain ⟨n,hn⟩:∃n,(trL g.terms.length ess).length=n:=⟨_,rfl⟩;have y:=h.here.cells;simp[Zw]at y;rw[hn]at hTl heach y;unfold Zv.run;have s1:=((((St.refl noB w).lit 24 1 n (Array.replicate n (Value.slice none 0 0)) (by unfold maxLen;omega) (by simp)).alloc #[.slice (some ⟨w.heap.size,0,none⟩) n n] 50).push (c:=Ch.all ((List.replicate n ((none,0,[]):GRow)).map inC)) ⟨λ _=>0,λ i h=>absurd rfl h,λ k c hc=>by
  rw[Qh]at hc
  obtain ⟨x,hx,rfl⟩:=Q4.1 hc
  have:=Qa0 (Qe hx)
  subst this
  exact Zlv _ _ _ _⟩)
 simp -dsimp[go_sem,y,Zz2 w n (by omega)];have e1:(w.alloc (.cells (Array.replicate n (Value.slice none 0 0)) 24)).heap.size=w.heap.size+1:=by simp
 rw[e1]at s1;generalize (w.alloc (.cells (Array.replicate n (Value.slice none 0 0)) 24)).alloc (.cells #[.slice (some ⟨w.heap.size,0,none⟩) n n] 50)=w1 at s1 |-;generalize w.heap.size+1=vb at s1 |-;generalize w.heap.size=ob at s1 |-;have s2:St noB w w1 (Zes vb ob (List.replicate n ((none,0,[]):GRow))):=by
  have:=s1.pick (L':=[boxC vb 50 [.slice (some ⟨ob,0,none⟩) n n],rowC 24 1 (some ⟨ob,0,none⟩) n n (Array.replicate n (Value.slice none 0 0)).toList,Ch.all ((List.replicate n ((none,0,[]):GRow)).map inC)]) [1,0,2] (by decide) rfl;unfold Zes;rw[Qce,Qcq (f:=slV)];rw[Qa8]at this;exact this
 refine Zdx (heach w1 vb ob s2) ?_;rintro v2 w2 ⟨R0,hR0,hRQ,s3⟩;have s4:St noB w w2 (Zwh vb ob R0):=s3.turn (k:=2) rfl λ F h=>ZZ127 h;have y4:=(s4.box 0 rfl).1;simp[Zw]at y4;unfold Zv.b4;simp -dsimp[go_sem,y4];refine Zv.l6_intro _ _ _ _ _ (λ y w'=>∃(k:Nat) (R:List GRow),y = .int .i64 k/\k<=n/\R.length=n/\(∀i x,R[i]?=some x->x.2.2.length<=1000000000/\(∀y,y∈x.2.2↔Q i y)/\(i<k->x.2.1=x.2.2.length/\x.2.2.Pairwise (· < ·)))/\St noB w w' (Zwh vb ob R)) (λ y _=>n-iv y)
  ⟨0,R0,rfl,Qy _,hR0,λ i x hx=>⟨(hRQ i x hx).1,(hRQ i x hx).2,λ h=>absurd h (Qcs _)⟩,s4⟩ ?_
 rintro _ w5 ⟨k,R,rfl,hk,hRl,hRR,s5⟩ C hC;rw[hR0];simp -dsimp[go_sem];refine Za (λ p1=>?_) (λ p1=>?_)<;>simp at p1
 ·have hkl:k<R.length:=by omega
  have hx:R[k]?=some R[k]:=Qb hkl;obtain ⟨r1,r2,_⟩:=hRR k _ hx;refine Zyd s5 hx r1 (by omega) λ w' l' h1 h2 h3=>hC _ _ ⟨k+1,_,rfl,by omega,by rw[Qau];exact hRl,λ i x hxi=>?_,h3⟩ (by simp[iv];omega);by_cases e:k=i
  ·subst e;rw[Qn hkl]at hxi;injection hxi with hxi;subst hxi;refine ⟨?_,λ y=>(h2 y).trans (r2 y),λ _=>⟨rfl,h1⟩⟩;have:l'.length<=R[k].2.2.length:=Qc5 (h1.imp λ h=>by omega) λ y hy=>(h2 y).1 hy
   show l'.length<=_
   omega
  ·rw[Qs e]at hxi;obtain ⟨q1,q2,q3⟩:=hRR i x hxi;exact ⟨q1,q2,λ h=>q3 (by omega)⟩
 ·have:k=n:=by omega
  subst this;have y5:=(s5.box 0 rfl).1;simp[Zw]at y5;unfold Zv.b3;simp -dsimp[go_sem,y5];refine hR _ _ ⟨R.map λ x=>x.2.2,by rw[Qp,hRl,hn],λ i l hl=>?_,s5.chg,ob,R.length,?_,?_,λ i l hl=>?_⟩
  ·rw[Qh]at hl;obtain ⟨x,hx,rfl⟩:=Q4.1 hl;obtain ⟨q1,q2,q3⟩:=hRR i x hx;exact ⟨(q3 (by have:=(Qa.1 hx).1;omega)).2,q2⟩
  ·rw[Qp]
  ·obtain ⟨F,ho,hF⟩:=s5.get (k:=1) rfl;exact (hF ob (ho.2 ob rfl)).1
  ·rw[Qh]at hl;obtain ⟨x,hx,rfl⟩:=Q4.1 hl;obtain ⟨q1,q2,q3⟩:=hRR i x hx;obtain ⟨q4,q5⟩:=q3 (by have:=(Qa.1 hx).1;omega);obtain ⟨z1,_,_⟩:=Ze1 s5 1 rfl hx;obtain ⟨F,sF,_⟩:=s5.inAll' 2 rfl;obtain ⟨F2,ho,_⟩:=sF.get (k:=i) (c:=lnC x) (by rw[Qh,hx];rfl);obtain ⟨a,c,l⟩:=x;simp only at q4 q1 q2;subst q4;exact ⟨a,z1,ln_rd ho (λ y hy=>hQi i y ((q2 y).1 hy)) q1⟩
end Go.Proofs.YtjibcckpehdbhaaGreatDoor
namespace Go.Px.Cn
open Go.Px Go.Px.Scan
def RdQ (P:Prs)(ks:List (List It))(T:List (Nat×Int))(i:Nat)(y:Int):Prop:=∃(q r j:Nat) (A C:Int),T[i]?=some (q,A)/\Gt P ks q A r/\Nul P C/\T[j]?=some (r,C)/\y=j
end Go.Px.Cn
namespace Go.Proofs.YtjibcckpehdbhaaGreatDoor
open Go.Px Go.Px.Scan Go.Px.Cn Go.RowKit
attribute [-go_sem] Builtin.append_ Zad.b6 Zad.b13 Zad.b16_1 Zad.b16 Zad.b15_1 Zad.b15 Zad.b8
def putV (vb:Nat):Value := .func (.func Za6.id) #[] #[.pointer (some ⟨vb,0,none⟩)]
section
variable {W:World} {pb pw qb vb ob:Nat} {g:Gr} {ks:List (List It)} {ess:List (List (Int×Nat))} {d:Wd} {A1:Option Addr} {c1:Nat}
def rdE (nT:Nat)(ms:List Bool)(e:Int×Nat):Bool:=decide ((nT:Int)<=e.1) && vanS nT ms e.1
def Zgz (nT:Nat)(ms:List Bool)(T:List (Nat×Int))(r:Nat)(es:List (Int×Nat)):List Int:=(es.filter (rdE nT ms)).map λ e=>((trI T r e.1.toNat:Nat):Int)
theorem Zsv (nT:Nat)(ms:List Bool)(T:List (Nat×Int))(r:Nat)(es:List (Int×Nat))(e:Int×Nat):Zgz nT ms T r (es++[e])=Zgz nT ms T r es++if rdE nT ms e=true then [((trI T r e.1.toNat:Nat):Int)] else []:=by
 unfold Zgz;rw[Qae,Qu];congr 1;by_cases h:rdE nT ms e=true
 ·rw[if_pos h,Qaz h];rfl
 ·rw[if_neg h,Qat (by simpa using h)];rfl
theorem Zmv (nT:Nat)(ms:List Bool)(T:List (Nat×Int))(r:Nat)(es:List (Int×Nat)):(Zgz nT ms T r es).length<=es.length:=by
 unfold Zgz;rw[Qp];exact Qah _ _
theorem Zo8 {w:World}{i r:Nat}{es:List (Int×Nat)}{ae:Option Addr}{R0:List GRow}{x0:GRow}{Q:EP}{C3:VP}{T:List (Nat×Int)}(hTe:trL g.terms.length ess=T)(hTl:T.length<=40000)(h:WoR W pb g ks ess d)
  (hpw:∀w',Chg noB W w'->w'.cell? ⟨pw,0,none⟩=some (.pointer (some ⟨pb,0,none⟩))/\pw<w'.heap.size) (hqb:∀w',Chg noB W w'->w'.cell? ⟨qb,0,none⟩=some (.slice A1 g.terms.length c1)/\qb<w'.heap.size)
  (hes:ess[r]?=some es) (hrd:∀w',Chg noB W w'->(Zq Zj8).at1 w' W.heap.size (.slice ae es.length es.length) es) (hx:R0[i]?=some x0) (hx0:x0.2.2=[]) (hi:i<40000)
  (s:St noB W w (Zes vb ob R0))
  (hgo:∀w' a c,St noB W w' (Zes vb ob (R0.set i (a,c,Zgz g.terms.length d.ms T r es)))->Zad.b6 Q C3 (.int .i64 i) w') :
  Zad.l10 Q C3 (putV vb) (.pointer (some ⟨pw,0,none⟩)) (.pointer (some ⟨qb,0,none⟩)) (.int .i64 i) (.int .i64 r) (.int .i64 i) (.slice ae es.length es.length) (.int .i64 es.length) (.int .i64 0) w:=by
 have hel:=h.aut.eslen hes;have hil:=(Qa.1 hx).1;have hrl:=(Qa.1 hes).1;have hkl:=h.aut.len;have hee:=h.aut.es.len;have hT1:=h.aut.cl.syms.t1;have hN1:=h.aut.cl.syms.n1;refine Zad.l10_intro _ _ _ _ _ _ _ _ _ _ _ _ (λ y w'=>∃(k:Nat) (a:Option Addr) (c:Nat),y = .int .i64 k/\k<=es.length/\St noB W w' (Zes vb ob (R0.set i (a,c,Zgz g.terms.length d.ms T r (es.take k))))) (λ y _=>es.length-iv y)
  ⟨0,x0.1,x0.2.1,rfl,Qy _,by
   have:R0.set i (x0.1,x0.2.1,Zgz g.terms.length d.ms T r (es.take 0))=R0:=by
    have e:(x0.1,x0.2.1,Zgz g.terms.length d.ms T r (es.take 0))=R0[i]'hil:=by
     rw[(Qa.1 hx).2]
     show (x0.1,x0.2.1,([]:List Int))=x0
     rw[<-hx0]
    rw[e,Qai]
   rw[this];exact s⟩ ?_
 rintro _ w1 ⟨k,a,c,rfl,hk,s1⟩ C hC;simp -dsimp[go_sem];refine Za (λ p1=>?_) (λ p1=>?_)<;>simp at p1
 ·have wk:=wS k (by omega);obtain ⟨b,o,rfl,hb,x1,x2⟩:=Zkt (hrd w1 s1.chg) p1;have hm:=Qj p1;have et:es.take (k+1)=es.take k++[es[k]]:=Qd p1;have hsy:=h.aut.sym hes hm;have hgt:=h.aut.edge hes hm;obtain ⟨e,he⟩:∃e,es[k]=e:=⟨_,rfl⟩;rw[he]at x1 x2 hm et hsy hgt;obtain ⟨sy,r2⟩:=e;simp only at x1 x2 hsy hgt;obtain ⟨n,rfl⟩:∃n:Nat,sy=n:=⟨sy.toNat,by omega⟩;have s2:=s1.alloc #[.int .i64 (n:Int),.int .i64 (r2:Int)] 99;obtain ⟨yq,yql⟩:=hqb w1 s1.chg;have up:∀w' a' c',St noB W w' (Zes vb ob (R0.set i (a',c',Zgz g.terms.length d.ms T r (es.take (k+1)))))->Zad.b13 Q C3 C (.int .i64 k) w':=λ w' a' c' s'=>by
   unfold Zad.b13;simp -dsimp[go_sem,wk];exact hC _ _ ⟨k+1,a',c',by simp,by omega,s'⟩ (by simp[iv];omega)
  rw[et,Zsv]at up;unfold Zad.b15;simp -dsimp[go_sem,p1,x1,x2,yq,yql];refine Za (λ p2=>?_) (λ p2=>?_)<;>simp at p2
  ·obtain ⟨m,rfl⟩:∃m:Nat,n=g.terms.length+m:=⟨n-g.terms.length,by omega⟩;have hm1:m<d.ms.length:=by rw[h.msl];omega
   have hm2:m<g.nons.length:=by omega
   obtain ⟨nn,hnn⟩:∃nn,g.terms.length+m=nn:=⟨_,rfl⟩;rw[hnn]at s2 up hsy hgt |-;have wi:IntKind.i64.wrap ((nn:Int)-(g.terms.length:Int))=(m:Int):=by rw[IntWalk.i64_in _ (by omega)];omega
   have hW:=h.keep s2.chg;obtain ⟨yp,ypl⟩:=hpw _ s2.chg;obtain ⟨yq,yql⟩:=hqb _ s2.chg;unfold Zad.b15_1;generalize w1.alloc (.cells #[.int .i64 (nn:Int),.int .i64 (r2:Int)] 99)=w2 at s2 hW yp ypl yq yql |-;generalize w1.heap.size=eb at s2 |-;have y2:=(s2.box 3 rfl).1;have yl2:=(s2.box 3 rfl).2.2;simp[Zw]at y2;have hf:=hW.here;have y:=hf.cells;have ylt:=hf.lt;simp[Zw]at y;have hv:=hf.van m hm1;have hvl:d.nb<w2.heap.size:=World.block_lt_of_cell? _ _ hv;simp -dsimp[go_sem,yp,ypl,yq,yql,y2,yl2,y,ylt,wi,hm2,hv,hvl];unfold Zad.b16;have hvan:vanS g.terms.length d.ms (nn:Int)=d.ms[m]:=by
    unfold vanS;rw[decide_eq_true (by omega),Qcm];have:(nn:Int)-(g.terms.length:Int)=(m:Int):=by omega
    rw[this];simp[Qc,hm1]
   have hre:rdE g.terms.length d.ms ((nn:Int),r2)=d.ms[m]:=by unfold rdE;rw[decide_eq_true (by show (g.terms.length:Int)<=(nn:Int);omega),Qcm];exact hvan
   rw[hre]at up;refine Za (λ p3=>?_) (λ p3=>?_)
   ·rw[if_pos p3]at up;have hmT:(r,(nn:Int))∈T:=by rw[<-hTe,h.aut.mem_trL];exact ⟨by omega,hgt.tr⟩
    have hat:=((hW.keep (Chg.refl noB w2).drew.drew).here).at_ r nn (by omega) (by omega);rw[hTe,Zvv hmT]at hat;obtain ⟨ht1,ht2⟩:=Zn6 hmT;have wt:IntKind.i64.wrap ((trI T r nn:Nat):Int)=((trI T r nn:Nat):Int):=IntWalk.i64_in _ (by omega);unfold Zad.b16_1;simp -dsimp[go_sem,yp,ypl,y2,yl2,y,ylt,hat,wt];have hxi:(R0.set i (a,c,Zgz g.terms.length d.ms T r (es.take k)))[i]?=some (a,c,Zgz g.terms.length d.ms T r (es.take k)):=Qn hil;have hrl:=Zmv g.terms.length d.ms T r (es.take k);rw[Q6]at hrl;unfold putV;have s3:=(s2.take 3).old (Chg.refl noB w2).drew.drew;refine Zxq (Ztz (M:=[]) (j:=trI T r nn) s3 hxi (by simp only;omega) (by omega)) ?_;rintro _ w3 ⟨a',c',s4⟩;rw[Qbe]at s4;refine up _ a' c' ?_;have e:((((nn:Int),r2):Int×Nat)).1.toNat=nn:=by simp
    rw[e];exact s4
   ·rw[if_neg (by rw[p3];simp),Qas]at up;exact up _ _ _ ((s2.old (Chg.refl noB _).drew).take 3)
  ·have hne:rdE g.terms.length d.ms ((n:Int),r2)=false:=by unfold rdE;rw[decide_eq_false (by omega)];rfl
   rw[hne]at up;simp only[Bool.false_eq_true,if_false,Qas]at up;unfold Zad.b16;simp -dsimp[go_sem];exact up _ _ _ ((s2.old (Chg.refl noB _).drew).take 3)
 ·have:k=es.length:=by omega
  subst this;rw[Qm]at s1;exact hgo w1 a c s1
theorem Ztc {T:List (Nat×Int)}{i q r:Nat}{A:Int}{es:List (Int×Nat)}(hTe:trL g.terms.length ess=T){w:World}(h:WoR w pb g ks ess d)(hi:T[i]?=some (q,A))(hg:Gt g.prods ks q A r)(hes:ess[r]?=some es)(y:Int) :
  y∈Zgz g.terms.length d.ms T r es↔RdQ g.prods ks T i y:=by
 unfold Zgz;rw[Qr];have hnd:T.Nodup:=hTe ▸ Zke h.aut g.terms.length;constructor
 ·rintro ⟨⟨sy,r2⟩,he,rfl⟩;rw[Qz]at he;obtain ⟨he,hv⟩:=he;unfold rdE at hv;rw[Qad,decide_eq_true_eq]at hv;have hsy:=h.aut.sym hes he;have hgt:=h.aut.edge hes he;obtain ⟨n,rfl⟩:∃n:Nat,sy=n:=⟨sy.toNat,by have:=hsy.1;simp only at this;omega⟩;have hmT:(r,(n:Int))∈T:=by rw[<-hTe,h.aut.mem_trL];exact ⟨hv.1,hgt.tr⟩
  exact ⟨q,r,trI T r n,A,n,hi,hg,(h.nul _).2 hv.2,(Zn6 hmT).1,by simp⟩
 ·rintro ⟨q',r',j,A',C,h1,h2,h3,h4,rfl⟩;rw[hi]at h1;injection h1 with h1;injection h1 with h1 h1';subst h1 h1';have:=h.aut.au.uniq hg h2;subst this;have hm:=Qe h4;have hm':=hm;rw[<-hTe,h.aut.mem_trL]at hm';obtain ⟨r2,hr2⟩:=h.aut.au.gt hm'.2;obtain ⟨⟨es',he1,he2⟩,_⟩:=h.aut.gt hr2;rw[hes]at he1;injection he1 with he1;subst he1;have hsy:=h.aut.sym hes he2;obtain ⟨n,rfl⟩:∃n:Nat,C=n:=⟨C.toNat,by have:=hsy.1;simp only at this;omega⟩;refine ⟨((n:Int),r2),Qz.2 ⟨he2,?_⟩,?_⟩
  ·unfold rdE;rw[Qad,decide_eq_true_eq];exact ⟨hm'.1,(h.nul _).1 h3⟩
  ·have:trI T r n=j:=Zer hnd (Zn6 hm).1 h4;simp[this]
theorem Zww {w:World}{T:List (Nat×Int)}(hTe:trL g.terms.length ess=T)(hTl:T.length<=40000)(h:WoR W pb g ks ess d)
  (hpw:∀w',Chg noB W w'->w'.cell? ⟨pw,0,none⟩=some (.pointer (some ⟨pb,0,none⟩))/\pw<w'.heap.size) (hqb:∀w',Chg noB W w'->w'.cell? ⟨qb,0,none⟩=some (.slice A1 g.terms.length c1)/\qb<w'.heap.size)
  (s:St noB W w (Zes vb ob (List.replicate T.length ((none,0,[]):GRow)))) :
  Ct Tryz.prog Zad.id #[putV vb,.pointer (some ⟨pw,0,none⟩),.pointer (some ⟨qb,0,none⟩)] w λ _ w'=>∃R:List GRow,R.length=T.length/\(∀i x,R[i]?=some x->x.2.2.length<=1000000000/\∀y,y∈x.2.2↔RdQ g.prods ks T i y)/\St noB W w' (Zes vb ob R):=by
 refine Zad.ct λ Q hQ=>?_;have yp:=(hpw w s.chg).1;have y:=(h.f w s.chg).cells;simp[Zw]at y;rw[hTe]at y;unfold Zad.run;simp -dsimp[go_sem,yp,y];refine Zad.l3_intro _ _ _ _ _ _ _ _ (λ y w'=>∃(i:Nat) (R:List GRow),y = .int .i64 i/\i<=T.length/\R.length=T.length/\(∀j x,R[j]?=some x->(j<i->x.2.2.length<=1000000000/\∀y,y∈x.2.2↔RdQ g.prods ks T j y)/\(i<=j->x.2.2=[]))/\St noB W w' (Zes vb ob R)) (λ y _=>T.length-iv y)
  ⟨0,_,rfl,Qy _,by rw[Qce],λ j x hx=>⟨λ h=>absurd h (Qcs _),λ _=>by
   have:=Qa0 (Qe hx)
   rw[this]⟩,s⟩ ?_
 rintro _ w1 ⟨i,R,rfl,hi,hRl,hRR,s1⟩ C hC;simp -dsimp[go_sem];refine Za (λ p1=>?_) (λ p1=>?_)<;>simp at p1
 ·have wi:=wS i (by omega);have hW1:=h.keep s1.chg;obtain ⟨b,o,eAt,hb,x1,x2⟩:=Znv (T:=T) (n:=T.length) (c:=T.length) (by have:=hW1.here.tr;rw[hTe]at this;exact this) p1;have hT:T[i]?=some T[i]:=Qb p1;obtain ⟨e,he⟩:∃e,T[i]=e:=⟨_,rfl⟩;rw[he]at x1 x2 hT;obtain ⟨q,A⟩:=e;simp only at x1 x2;have hm:=Qe hT;rw[<-hTe,h.aut.mem_trL]at hm;obtain ⟨r,hgt⟩:=h.aut.au.gt hm.2;obtain ⟨g1,g2,g3,g4,g5,n,rfl,g6,g7⟩:=h.gt hgt;have hrl:r<ks.length:=by obtain ⟨_,l',_,hr,_⟩:=hgt;exact (Qa.1 hr).1
  obtain ⟨l,es,hl,hes,_⟩:=h.aut.at hrl;have s2:=s1.alloc #[.int .i64 (q:Int),.int .i64 (n:Int)] 190;have y1:=hW1.here.cells;simp[Zw]at y1;rw[eAt]at y;unfold Zad.b8;rw[eAt];simp -dsimp[go_sem,p1,x1,x2];have hW2:=hW1.keep ((Chg.refl noB w1).alloc (.cells #[.int .i64 (q:Int),.int .i64 (n:Int)] 190));generalize w1.alloc (.cells #[.int .i64 (q:Int),.int .i64 (n:Int)] 190)=w2 at s2 hW2 |-;generalize w1.heap.size=eb at s2 |-;have y2:=(s2.box 3 rfl).1;have yl2:=(s2.box 3 rfl).2.2;obtain ⟨yp,ypl⟩:=hpw _ s2.chg;have hf:=hW2.here;have y3:=hf.cells;have ylt:=hf.lt;simp[Zw]at y2 y3;have hto:=((hW2.keep (Chg.refl noB w2).drew).here).to_ q n (by omega) g6;rw[g7]at hto;obtain ⟨gs,a,ca,ae,eA,z1,z2,z3⟩:=hf.au.at hl hes;have wr:IntKind.i64.wrap ((r:Nat):Int)=((r:Nat):Int):=IntWalk.i64_in _ (by omega);have hgsl:gs<w2.heap.size:=World.block_lt_of_cell? _ _ z1;rw[eA]at y3;simp -dsimp[go_sem,y2,yl2,yp,ypl,y3,ylt,hto,wr,hrl,z1,z2,hgsl];have hx:R[i]?=some R[i]:=Qb (by omega);refine Zo8 (A1:=A1) (c1:=c1) hTe hTl h hpw hqb hes (ae:=ae) (λ w' hc=>?_) hx ((hRR i _ hx).2 (Ql _)) (by omega) ((s2.take 3).old (Chg.refl noB w2).drew) λ w' a' c' s'=>?_
  ·obtain ⟨gs2,_,_,ae2,e1,_,x2',x3'⟩:=h.here.au.at hl hes;rw[eA]at e1;injection e1 with e1;injection e1 with e1;subst e1;have:=s2.chg.at x2' id;rw[z2]at this;injection this with this;injection this with this;subst this;exact Rep.below x3' (hc.below (Ql _) λ _ _=>id)
  ·unfold Zad.b6;simp -dsimp[go_sem,wi];refine hC _ _ ⟨i+1,_,by simp,by omega,by rw[Qau];exact hRl,λ j x hxj=>?_,s'⟩ (by simp[iv];omega);by_cases e:i=j
   ·subst e;rw[Qn (by omega)]at hxj;injection hxj with hxj;subst hxj;refine ⟨λ _=>⟨?_,λ y=>Ztc hTe h hT hgt hes y⟩,λ h=>by omega⟩;have h1:=Zmv g.terms.length d.ms T r es;have h2:=h.aut.eslen hes
    show (Zgz g.terms.length d.ms T r es).length<=1000000000
    omega
   ·rw[Qs e]at hxj;obtain ⟨q1,q2⟩:=hRR j x hxj;exact ⟨λ h=>q1 (by omega),λ h=>q2 (by omega)⟩
 ·have:i=T.length:=by omega
  subst this;exact hQ _ _ ⟨R,hRl,λ j x hx=>(hRR j x hx).1 (by have:=(Qa.1 hx).1;omega),s1⟩
end
attribute [-go_sem] Zb4.b1_1 Zb4.b1_2
theorem _root_.Go.Px.Cn.AutP.trLen {g:Gr}{ks:List (List It)}{ess:List (List (Int×Nat))}(h:AutP g ks ess)(nT:Nat):(trL nT ess).length<=33280:=by
 have:=Zot (nT:=nT) (ess:=ess) λ es hes=>by
  obtain ⟨j,hj⟩:=Qo.1 hes;exact h.eslen hj
 have h1:=h.len;have h2:=h.es.len;have h3:ess.length*130<=256*130:=Qbr _ (by omega);omega
def RelA (Q:List (List It)->List (Nat×Int)->Nat->Int->Prop)(g:Gr)(w':World)(v:Value):Prop:=(∃e:Nat,NoAut g e/\v = .tuple #[.slice none 0 0,.int .i64 e]) \/
 ∃ks ess vv E,AutP g ks ess/\v = .tuple #[vv,.int .i64 0]/\E.length=(trL g.terms.length ess).length/\(∀(i:Nat) l,E[i]?=some l->l.Pairwise (· < ·)/\∀y,y∈l↔Q ks (trL g.terms.length ess) i y)/\Zpn w' vv E
theorem Zyo {w:World}{B:Nat}{vg:Value}{g:Gr}(hg:Zb7.atN w B vg g)(hB:B<=w.heap.size)(hD:Deb w) :
  Ct Tryz.prog Zb4.id #[vg] w λ v w'=>Chg noB w w'/\RelA (RdQ g.prods) g w' v:=by
 refine Zb4.ct λ R hR=>?_;obtain ⟨A1,c1,A2,c2,A3,c3,A4,c4,rfl,⟨m1,m2,m3,m4⟩,hst,hc0,hgr⟩:=Zbg hg hB;have s1:=(St.refl noB w).alloc (gQ A1 c1 A2 c2 A3 c3 A4 c4 g) 27;have y1:=(hgr _ (Chg.refl _ _)).k;unfold Zb4.run;simp -dsimp[go_sem,y1];have hg1:=Zx hg (s1.chg.below hB λ _ _=>id);have hB1:B<=(w.alloc (.cells (gQ A1 c1 A2 c2 A3 c3 A4 c4 g) 27)).heap.size:=by have:=s1.chg.size;omega
 have hql:w.heap.size<(w.alloc (.cells (gQ A1 c1 A2 c2 A3 c3 A4 c4 g) 27)).heap.size:=by simp
 clear hc0 y1;generalize w.alloc (.cells (gQ A1 c1 A2 c2 A3 c3 A4 c4 g) 27)=w1 at s1 hg1 hB1 hgr hql |-;generalize w.heap.size=qb at s1 hgr hql |-;refine Zi (Zmn hg1 hB1 (hD.chg s1.chg id)) ?_;rintro v w2 ⟨hc2,hres⟩;rcases hres with ⟨e,he,rfl⟩|⟨pb,ks,ess,d,rfl,hW,hvg⟩
 ·have hne:((e:Int) != 0)=true:=by rcases he with ⟨rfl,_⟩ | ⟨rfl,_⟩<;>rfl
  have s3:=(s1.old hc2).alloc #[.pointer none] 180;unfold Zb4.b1_2;simp -dsimp[go_sem,hne];exact hR _ _ ⟨s3.chg,Or.inl ⟨e,he,rfl⟩⟩
 ·have s3:=(St.refl noB w2).alloc #[.pointer (some ⟨pb,0,none⟩)] 180;unfold Zb4.b1_2;simp -dsimp[go_sem];have hW3:=hW.keep s3.chg;have hc3:=hc2.trans s3.chg;generalize w2.alloc (.cells #[.pointer (some ⟨pb,0,none⟩)] 180)=w3 at s3 hW3 hc3 |-;generalize w2.heap.size=pw at s3 |-;have y3:=(s3.box 0 rfl).1;simp[Zw]at y3;unfold Zb4.b1_1;simp -dsimp[go_sem,y3];have hTl:=hW.aut.trLen g.terms.length;refine Zi (Zrg hW3 (by omega) (RdQ g.prods ks (trL g.terms.length ess)) (λ i y ⟨q,r,j,A,C,h1,_,_,h2,h3⟩=>?_) λ w4 vb ob s4=>?_) ?_
  ·have:=(Qa.1 h2).1;subst h3;exact ⟨by omega,by omega⟩
  ·exact Zww (A1:=A1) (c1:=c1) rfl (by omega) hW3 (λ w' hc=>⟨((s3.old hc).box 0 rfl).1.1,((s3.old hc).box 0 rfl).2.2⟩) (λ w' hc=>⟨(hgr w' (hc3.trans hc)).k.1,Qaj hql (hc3.trans hc).size⟩) s4
  ·rintro v5 w5 ⟨E,hE1,hE2,hc5,hrows⟩;exact hR _ _ ⟨(s1.chg.trans hc3).trans hc5,Or.inr ⟨ks,ess,v5,E,hW.aut,rfl,hE1,hE2,hrows⟩⟩
end Go.Proofs.YtjibcckpehdbhaaGreatDoor
