/-
  Texts of this claim: Tp1, Tp2, Rl0, Lo6, LzT, Lz4, Lo7, Lo8, Lo9, Gs6.
-/
import Derived.Test.YtjibcckpehdbhaaGreatDoorY13
import Derived.Test.YtjibcckpehdbhaaGreatDoorY07
import Derived.Test.YtjibcckpehdbhaaGreatDoorY09
import Derived.Test.YtjibcckpehdbhaaGreatDoorY04
import Derived.Test.YtjibcckpehdbhaaGreatDoorY11
import Derived.Test.YtjibcckpehdbhaaGreatDoorY05
import Derived.Shelf.Sort.Plain
import Derived.Shelf.Slices.In.SortNone
import Derived.Test.YtjibcckpehdbhaaGreatDoorY03
import Derived.Maps.RangeWalk
import Derived.Test.YtjibcckpehdbhaaGreatDoorY12
set_option maxHeartbeats 1000000
set_option linter.unusedSimpArgs false
set_option linter.unusedVariables false
set_option maxRecDepth 100000
namespace Go.Px.Cn
open Go.Px
def fV (z:It1):List Value:=[.int .i64 z.1.1,.int .i64 z.1.2,.int .i64 z.2]
def rFl:Rep It1 where
 size:=3
 bytes:=24
 ok _ _ cs x:=cs=fV x
 len h:=by rw[h];rfl
 keep h _ _:=h
 one h u hu:=by rw[h]at hu;simp[fV]at hu;rcases hu with rfl | rfl | rfl<;>rfl
theorem Zi0 {w:World}{B n c:Nat}{A:Option Addr}{l:List It1}(h:(Zq rFl).at1 w B (.slice A n c) l){i:Nat}(hi:i<l.length):∃b o,A=some ⟨b,o,none⟩/\b<B/\w.cell? ⟨b,o+i*3,none⟩=some (.int .i64 l[i].1.1)/\w.cell? ⟨b,o+i*3+1,none⟩=some (.int .i64 l[i].1.2)/\w.cell? ⟨b,o+i*3+2,none⟩=some (.int .i64 l[i].2):=by
 obtain ⟨b,o,ys,hA,hb,hy,hc⟩:=Zek h hi;have hy:ys=fV l[i]:=hy;subst hy;exact ⟨b,o,hA,hb,hc 0 _ rfl,hc 1 _ rfl,hc 2 _ rfl⟩
end Go.Px.Cn
namespace Go.Proofs.YtjibcckpehdbhaaGreatDoor
open Go.Px Go.Px.Scan Go.Px.Cn Go.RowKit
attribute [-go_sem] Builtin.append_ Zct.b1_1 Zdq.b1_1 Zcs.b1_1 Zcs.b1_2 Zcs.b1_3 Zcs.b1_4
theorem Zho {w:World}{B:Nat}{vg:Value}{g:Gr}(hg:Zb7.atN w B vg g)(hB:B<=w.heap.size)(x:It)(hx:x.1<g.prods.length/\x.2<=(rgt g.prods x.1).length) :
  Ct Tryz.prog Zct.id #[vg,.agg #[.int .i64 x.1,.int .i64 x.2]] w λ v w'=>v = .int .i64 (aftI g.prods x)/\Chg noB w w':=by
 refine Zct.ct λ R hR=>?_;obtain ⟨A1,c1,A2,c2,A3,c3,A4,c4,rfl,⟨m1,m2,m3,m4⟩,hst,hc0,hgr⟩:=Zbg hg hB;have hr4:(Zq rPr).at1 w B (.slice A4 g.prods.length c4) g.prods:=by obtain ⟨_,_,_,_,_,_,_,_,e,_,_,_,_,h5,_⟩:=(Zcg hg).ex;injection e with e;injection e with e;simp at e;rw[e.2.2.2.1,e.2.2.2.2];exact h5
 have s1:=((St.refl noB w).alloc (gQ A1 c1 A2 c2 A3 c3 A4 c4 g) 27).alloc #[.int .i64 x.1,.int .i64 x.2] 89;obtain ⟨q,hq⟩:∃q,w.heap.size=q:=⟨_,rfl⟩;have e1:(w.alloc (.cells (gQ A1 c1 A2 c2 A3 c3 A4 c4 g) 27)).heap.size=q+1:=by simp[hq]
 rw[e1,hq]at s1;obtain ⟨bp,op,vr,eA,hbp,x1,x2,x3,hr,_⟩:=Zcc hr4 hx.1;subst eA;obtain ⟨Ar,cr,rfl,hrl,hrm,_⟩:=Zz hr;obtain ⟨rt,er⟩:∃rt,(g.prods[x.1]'hx.1).2.1=rt:=⟨_,rfl⟩;have ert:rgt g.prods x.1=rt:=by rw[<-er];have h:=hx.1;simp[rgt,h]
 rw[er]at x2 hr hrl;have x2:=s1.chg.at x2 id;have hrd:=Rep.below hr (s1.chg.below hB λ _ _=>id);have hlt:=hx.1;have y0:=(s1.box 0 rfl).1;have y1:=(s1.box 1 rfl).1;simp[Zw]at y0 y1;unfold Zct.run;simp -dsimp[go_sem,hq,y0,y1,hlt,x2];generalize (w.alloc (.cells #[.slice A1 g.terms.length c1,.slice A2 g.nons.length c2,.slice A3 g.levels.length c3,.int .i64 g.start,.slice (some ⟨bp,op,none⟩) g.prods.length c4] 27)).alloc (.cells #[.int .i64 x.1,.int .i64 x.2] 89)=w1 at s1 x2 hrd y0 y1 |-;rw[ert]at hx;refine Za (λ p1=>?_) (λ p1=>?_)
 ·have p1':x.2=rt.length:=by
   have:(x.2:Int)=(rt.length:Int):=by simpa using p1
   omega
  refine hR _ _ ⟨?_,s1.chg⟩;unfold aftI aft;rw[ert,p1',Qx (Ql _)];rfl
 ·have p1':x.2<rt.length:=by
   have:(x.2:Int)≠(rt.length:Int):=by simpa using p1
   omega
  obtain ⟨br,or',eAr,hbr,cx,hxin⟩:=Go.Px.ints_at hrd p1';subst eAr;unfold Zct.b1_1;simp -dsimp[go_sem,y1,p1',cx];refine hR _ _ ⟨?_,s1.chg⟩;unfold aftI aft;rw[ert,Qb p1'];rfl
theorem Zyj {w:World}{B:Nat}{vg:Value}{g:Gr}(hg:Zb7.atN w B vg g)(hB:B<=w.heap.size)(hs:g.terms.length+g.nons.length<=1000)(s:Int) :
  Ct Tryz.prog Zdq.id #[vg,.int .i64 s] w λ v w'=>v = .bool (decide ((g.terms.length:Int)<=s/\s<(g.terms.length:Int)+g.nons.length))/\Chg noB w w':=by
 refine Zdq.ct λ R hR=>?_;obtain ⟨A1,c1,A2,c2,A3,c3,A4,c4,rfl,⟨m1,m2,m3,m4⟩,hst,hc0,hgr⟩:=Zbg hg hB;have y1:=(hgr _ (Chg.refl _ _)).k;have hg1:=Zx hg (hc0.below hB λ _ _=>id);have hB1:=(hgr _ (Chg.refl _ _)).sz;unfold Zdq.run;simp -dsimp[go_sem,y1];refine Za (λ p1=>?_) (λ p1=>?_)<;>simp at p1
 ·unfold Zdq.b1_1;simp -dsimp[go_sem,y1];refine Zi (Zej hg1 hB1 hs) ?_;rintro _ w2 ⟨rfl,hc2⟩;simp -dsimp[go_sem];exact hR _ _ ⟨by congr 1;simp[p1],hc0.trans hc2⟩
 ·refine hR _ _ ⟨?_,hc0⟩;congr 1;symm;rw[decide_eq_false];omega
theorem Ztd (a b:It1)(w:World):Ct Tryz.prog Zcs.id #[.agg #[.int .i64 a.1.1,.int .i64 a.1.2,.int .i64 a.2],.agg #[.int .i64 b.1.1,.int .i64 b.1.2,.int .i64 b.2]] w λ v w'=>(∃r,v = .bool r/\(r=true↔fLt a b))/\Chg noB w w':=by
 refine Zcs.ct λ R hR=>?_;obtain ⟨q,hq⟩:∃q,w.heap.size=q:=⟨_,rfl⟩;have s1:=((St.refl noB w).alloc #[.int .i64 a.1.1,.int .i64 a.1.2,.int .i64 a.2] 117).alloc #[.int .i64 b.1.1,.int .i64 b.1.2,.int .i64 b.2] 117;have e1:(w.alloc (.cells #[.int .i64 a.1.1,.int .i64 a.1.2,.int .i64 a.2] 117)).heap.size=q+1:=by simp[hq]
 rw[e1,hq]at s1;have y0:=(s1.box 0 rfl).1;have y1:=(s1.box 1 rfl).1;simp[Zw]at y0 y1;unfold Zcs.run;simp -dsimp[go_sem,hq,y0,y1];generalize (w.alloc (.cells #[.int .i64 a.1.1,.int .i64 a.1.2,.int .i64 a.2] 117)).alloc (.cells #[.int .i64 b.1.1,.int .i64 b.1.2,.int .i64 b.2] 117)=w1 at s1 y0 y1 |-;refine Za (λ p1=>?_) (λ p1=>?_)<;>simp at p1
 ·unfold Zcs.b1_1;simp -dsimp[go_sem,y0,y1];refine hR _ _ ⟨⟨_,rfl,?_⟩,s1.chg⟩;unfold fLt;simp;omega
 ·unfold Zcs.b1_4;simp -dsimp[go_sem,y0,y1];refine Za (λ p2=>?_) (λ p2=>?_)<;>simp at p2
  ·unfold Zcs.b1_2;simp -dsimp[go_sem,y0,y1];refine hR _ _ ⟨⟨_,rfl,?_⟩,s1.chg⟩;unfold fLt;simp;omega
  ·unfold Zcs.b1_3;simp -dsimp[go_sem,y0,y1];refine hR _ _ ⟨⟨_,rfl,?_⟩,s1.chg⟩;unfold fLt;simp;omega
end Go.Proofs.YtjibcckpehdbhaaGreatDoor
namespace Go.Px.Cn
open Go.Px
theorem ZZ57 {l:List It1}(hs:l.Pairwise fLt){a:It1}{lo:Nat}(hlo:lo<=l.length)(h1:∀i (h:i<l.length),i<lo->fLt l[i] a)(h2:∀i (h:i<l.length),lo<=i->¬fLt l[i] a) :
  insF a l=l.take lo++a::l.drop lo/\(a∈l↔∃h:lo<l.length,l[lo]=a):=by
 have e1:l.filter (λ z=>fLt z a)=l.take lo:=by
  conv=>lhs;rw[<-Qag lo l]
  rw[Qae,Qbi.2,Qbf.2,Qas]
  ·intro z hz;obtain ⟨i,hi,rfl⟩:=Q3 hz;rw[Qb6];have:=h2 (lo+i) (by rw[Q7]at hi;omega) (by omega);simpa using this
  ·intro z hz;obtain ⟨i,hi,rfl⟩:=Q3 hz;rw[Qcj];rw[Q6]at hi;have:=h1 i (by omega) (by omega);simpa using this
 have e2:l.filter (λ z=>¬fLt z a)=l.drop lo:=by
  conv=>lhs;rw[<-Qag lo l]
  rw[Qae,Qbf.2,Qbi.2,Qcz]
  ·intro z hz;obtain ⟨i,hi,rfl⟩:=Q3 hz;rw[Qb6];have:=h2 (lo+i) (by rw[Q7]at hi;omega) (by omega);simpa using this
  ·intro z hz;obtain ⟨i,hi,rfl⟩:=Q3 hz;rw[Qcj];rw[Q6]at hi;have:=h1 i (by omega) (by omega);simpa using this
 refine ⟨by unfold insF;rw[e1,e2],λ ha=>?_,λ ⟨h,e⟩=>e ▸ Qj h⟩;obtain ⟨i,hi,e⟩:=Q3 ha;have hge:¬i<lo:=λ h=>ZZ186 a (by have:=h1 i hi h;rw[e]at this;exact this);have hll:lo<l.length:=by omega
 refine ⟨hll,?_⟩;by_cases e3:i=lo
 ·subst e3;exact e
 ·have:=(Qt.1 hs) lo i hll hi (by omega);rw[e]at this;exact absurd this (h2 lo hll (Ql _))
end Go.Px.Cn
namespace Go.Proofs.YtjibcckpehdbhaaGreatDoor
open Go.Px Go.Px.Scan Go.Px.Cn Go.RowKit
attribute [-go_sem] Builtin.append_ Za4.b4 Za4.b6 Za4.b5_1 Za4.b5 Za4.b9_1
theorem uSet:Tryz.prog.underlying 114=some (.slice 117):=Tryz.underlying114
theorem ZZ12:Tryz.prog.underlying 113=some (.slice 117):=Tryz.underlying113
theorem Zwk:(Tryz.prog.info? 117).map (λ i=>(i.zero,i.size,i.bytes))=some (some (.agg #[.int .i64 0,.int .i64 0,.int .i64 0]),3,24):=by kernel_rfl
theorem Zid {α:Type}{r:Rep α}{w:World}{B n c k:Nat}{A:Option Addr}{l:List α}(h:(Zq r).at1 w B (.slice A n c) l)(hk:k<=l.length):(Zq r).at1 w B (.slice A (l.take k).length c) (l.take k):=by
 obtain ⟨A',c',hv,h1,h2,h3,h4⟩:=h;injection hv with hv _;injection hv with hA _ hc;subst hA hc;have hl:(l.take k).length=k:=by rw[Q6];omega
 refine ⟨_,c,rfl,by omega,h2,h3,λ hp=>?_⟩;obtain ⟨b,o,e,hb,hcell⟩:=h4 (by omega);refine ⟨b,o,e,hb,λ i x hi=>hcell i x ?_⟩;rw[Qbm]at hi;split at hi
 ·exact hi
 ·cases hi
theorem Zg0 {α:Type}{r:Rep α}{w:World}{B c k:Nat}{A:Addr}{l:List α}(h:(Zq r).at1 w B (.slice (some A) l.length c) l)(hk:k<=l.length) :
  (Zq r).at1 w B (.slice (if c=k then some A else some (A.add (k*r.size))) (l.drop k).length (c-k)) (l.drop k):=by
 have hl:(l.drop k).length=l.length-k:=Q7;rw[hl];by_cases e:l.length=k
 ·obtain ⟨A',c',hv,h1,h2,h3,h4⟩:=h;injection hv with hv _;injection hv with hA _ hc;subst hc;exact ⟨_,c-k,by rw[hl],by omega,by omega,h3,λ hp=>by omega⟩
 ·obtain ⟨b,o,ys,hA,_⟩:=Zek h (i:=0) (by omega);injection hA with hA;subst hA;have:=Ze8 (o':=o+k*r.size) h hk rfl;have e9:(⟨b,o,none⟩:Addr).add (k*r.size)=⟨b,o+k*r.size,none⟩:=by
   simp only[Addr.add];split
   ·next h9=>rw[h9];rfl
   ·rfl
  rw[e9];exact this
theorem Zqb {a:It1}:∀u∈fV a,u.oneCell'=true:=λ u hu=>by simp[fV]at hu;rcases hu with rfl | rfl | rfl<;>rfl
theorem ZZ67 {w:World}{B c:Nat}{A:Option Addr}{l:List It1}(h:(Zq rFl).at1 w B (.slice A l.length c) l)(hB:B<=w.heap.size)(hl:l.length<=1000000)(hs:l.Pairwise fLt)(a:It1) :
  Ct Tryz.prog Za4.id #[.slice A l.length c,.agg #[.int .i64 a.1.1,.int .i64 a.1.2,.int .i64 a.2]] w λ v w'=>
   (a∈l/\v = .tuple #[.slice A l.length c,.bool false]/\Chg noB w w') \/
   (a∉l/\∃gb cap,v = .tuple #[.slice (some ⟨gb,0,none⟩) (l.length+1) cap,.bool true]/\St noB w w' [rowC 117 3 (some ⟨gb,0,none⟩) (l.length+1) cap ((insF a l).flatMap fV)]):=by
 refine Za4.ct λ R hR=>?_;have s1:=(St.refl noB w).alloc #[.int .i64 a.1.1,.int .i64 a.1.2,.int .i64 a.2] 117;unfold Za4.run;simp -dsimp[go_sem];generalize w.alloc (.cells #[.int .i64 a.1.1,.int .i64 a.1.2,.int .i64 a.2] 117)=w1 at s1 |-;generalize hq:w.heap.size=q at s1 |-;refine Za4.l8_intro _ _ _ _ _ _ (λ x y w'=>∃lo hi:Nat,x = .int .i64 lo/\y = .int .i64 hi/\lo<=hi/\hi<=l.length/\(∀i (h:i<l.length),i<lo->fLt l[i] a)/\(∀i (h:i<l.length),hi<=i->¬fLt l[i] a)/\St noB w w' [boxC q 117 [.int .i64 a.1.1,.int .i64 a.1.2,.int .i64 a.2]]) (λ x y _=>iv y-iv x)
  ⟨0,l.length,rfl,rfl,by omega,by omega,λ i h h2=>by omega,λ i h h2=>by omega,s1⟩ ?_
 rintro _ _ w2 ⟨lo,hi,rfl,rfl,hlh,hhl,h1,h2,s2⟩ C hC;have y2:=(s2.box 0 rfl).1;simp[Zw]at y2;simp -dsimp[go_sem];refine Za (λ p1=>?_) (λ p1=>?_)<;>simp at p1
 ·have wm:IntKind.i64.wrap ((lo:Int)+hi)=((lo+hi:Nat):Int):=by rw[IntWalk.i64_in _ (by omega)];omega
  obtain ⟨m,hme⟩:∃m,(lo+hi) / 2=m:=⟨_,rfl⟩;have wd:IntKind.i64.wrap (((lo:Int)+hi).tdiv 2)=(m:Int):=by
   rw[Int.tdiv_eq_ediv_of_nonneg (by omega),show ((lo:Int)+hi) / 2=((lo+hi) / 2:Nat) by omega,hme];exact IntWalk.i64_in _ (by omega)
  have wm':IntKind.i64.wrap ((lo:Int)+hi)=(lo:Int)+hi:=IntWalk.i64_in _ (by omega);have w1:=wS m (by omega);have hml:m<l.length:=by omega
  obtain ⟨b,o,rfl,hb,k1,k2,k3⟩:=Zi0 h hml;have k1:=s2.chg.at k1 id;have k2:=s2.chg.at k2 id;have k3:=s2.chg.at k3 id;have s3:=s2.old (Chg.refl noB w2).drew;obtain ⟨z,hz⟩:∃z,l[m]=z:=⟨_,rfl⟩;rw[hz]at k1 k2 k3;unfold Za4.b9_1;simp -dsimp[go_sem,wm',wd,hml,k1,k2,k3,y2];refine Zi (Ztd z a _) ?_;rintro _ w3 ⟨⟨r,rfl,hr⟩,hc3⟩;have s4:=s3.old hc3
  cases r with
  | true=>
   have hza:=hr.1 rfl;simp -dsimp[go_sem,w1];refine hC _ _ _ ⟨m+1,hi,by simp,rfl,by omega,hhl,λ i h3 h4=>?_,h2,s4⟩ (by simp[iv];omega);by_cases e:i=m
   ·subst e;rw[hz];exact hza
   ·have:=(Qt.1 hs) i m h3 hml (by omega);rw[hz]at this;exact Zu8 _ _ _ this hza
  | false=>
   simp -dsimp[go_sem];refine hC _ _ _ ⟨lo,m,rfl,rfl,by omega,by omega,h1,λ i h3 h4 h5=>?_,s4⟩ (by simp[iv];omega);have hna:¬fLt z a:=λ e=>by have:=hr.2 e;cases this
   by_cases e:i=m
   ·subst e;rw[hz]at h5;exact hna h5
   ·have:=(Qt.1 hs) m i hml h3 (by omega);rw[hz]at this;exact hna (Zu8 _ _ _ this h5)
 ·have hle:hi=lo:=by omega
  subst hle;obtain ⟨hins,hmem⟩:=ZZ57 hs hhl h1 h2;have s3:=s2.old (Chg.refl noB w2).drew;have fin:a∉l->∀w',St noB w w' [boxC q 117 [.int .i64 a.1.1,.int .i64 a.1.2,.int .i64 a.2]]->Za4.b4 R (.slice A l.length c) (.pointer (some ⟨q,0,none⟩)) (.int .i64 hi) w':=by
   intro hna w4 s4;have y4:=(s4.box 0 rfl).1;simp[Zw]at y4;obtain ⟨A',c',hv,hlc,hcm,_⟩:=Zz h;injection hv with _ _ hv;subst hv;have s5:=s4.nilRow 117 3;have key:∀x0 v1 v3:Value,(Zq rFl).at1 w B v1 (l.take hi)->(Zq rFl).at1 w B v3 (l.drop hi)->(∀w,Sem.run Tryz.prog (Instr.sliceAt 114 x0 (some (.int .i64 hi)) none none) w = .ok v3 w)->RES (pan R) (Sem.run Tryz.prog (Builtin.append_ #[114,114] 114 #[Value.slice none 0 0,v1]) w4) λ v3' w4=>
     RUN Tryz.prog (pan R) (Instr.loadAt 117 (Value.pointer (some ⟨q,0,none⟩))) w4 λ v5 w6=>
     RUN Tryz.prog (pan R) (Instr.buildSlice 114 1 #[(0,v5)]) w6 λ v7 w8=>
     RUN Tryz.prog (pan R) (Builtin.append_ #[114,114] 114 #[v3',v7]) w8 λ v9 w10=>
     RUN Tryz.prog (pan R) (Instr.sliceAt 114 x0 (some (.int .i64 hi)) none none) w10 λ v11 w12=>
     RUN Tryz.prog (pan R) (Builtin.append_ #[114,114] 114 #[v9,v11]) w12 λ v13 w14=>
     R (Ending.returned (Value.tuple #[v13,Value.bool true])) w14:=by
    intro x0 v1 v3 hv1 hv3 hsl;have hlt:(l.take hi).length=hi:=by rw[Q6];omega
    have hld:(l.drop hi).length=l.length-hi:=Q7;obtain ⟨A1,d1,rfl,_⟩:=Zz hv1;obtain ⟨A3,d3,rfl,_⟩:=Zz hv3;refine s5.appendRd (r:=rFl) (enc:=fV) 1 rfl uSet Zwk rfl (by decide) (Rep.below hv1 (s5.chg.below hB λ _ _=>id)) (λ h _=>h) (λ x _=>Zqb) (λ _ _=>rfl) (by unfold maxLen;omega) (by unfold Zaf;omega) ?_;intro a1 cap1 w6 s6;rw[show 0+(l.take hi).length=hi by omega]at s6 |-;have s6:St noB w w6 [boxC q 117 [.int .i64 a.1.1,.int .i64 a.1.2,.int .i64 a.2],rowC 117 3 a1 hi cap1 ([]++(l.take hi).flatMap fV)]:=s6;have y6:=(s6.box 0 rfl).1;simp[Zw]at y6;simp -dsimp[go_sem,y6];refine s6.append1 1 rfl uSet Zwk rfl (by decide) (news:=[.int .i64 a.1.1,.int .i64 a.1.2,.int .i64 a.2]) rfl (Zqb (a:=a)) (by unfold maxLen;omega) (by unfold Zaf;omega) ?_;intro g2 cap2 w7 s7;have s7:St noB w w7 [boxC q 117 [.int .i64 a.1.1,.int .i64 a.1.2,.int .i64 a.2],rowC 117 3 (some ⟨g2,0,none⟩) (hi+1) cap2 ([]++(l.take hi).flatMap fV++fV a)]:=s7;simp -dsimp only[go_sem,hsl];refine s7.appendRd (r:=rFl) (enc:=fV) 1 rfl uSet Zwk rfl (by decide) (Rep.below hv3 (s7.chg.below hB λ _ _=>id)) (λ h _=>h) (λ x _=>Zqb) (λ _ _=>rfl) (by unfold maxLen;omega) (by unfold Zaf;omega) ?_;intro a3 cap3 w8 s8;have s8:St noB w w8 [boxC q 117 [.int .i64 a.1.1,.int .i64 a.1.2,.int .i64 a.2],rowC 117 3 a3 (hi+1+(l.drop hi).length) cap3 ([]++(l.take hi).flatMap fV++fV a++(l.drop hi).flatMap fV)]:=s8;have e:hi+1+(l.drop hi).length=l.length+1:=by omega
    rw[e]at s8 |-;have e2:[]++(l.take hi).flatMap fV++fV a++(l.drop hi).flatMap fV=(insF a l).flatMap fV:=by rw[hins];simp
    rw[e2]at s8;have s9:St noB w w8 [rowC 117 3 a3 (l.length+1) cap3 ((insF a l).flatMap fV)]:=s8.pick [1] (by simp) rfl;have hpos:0<((insF a l).flatMap fV).length:=by
     rw[hins,Qab,Qq,Qan,Qq];have:(fV a).length=3:=rfl;omega
    obtain ⟨g3,e3,_⟩:=s9.rowAt 0 rfl (j:=0) hpos;subst e3;exact hR _ _ (Or.inr ⟨hna,g3,cap3,rfl,s9⟩)
   unfold Za4.b4
   cases A with
   | none=>
    have hn:=Zj4 h;subst hn;have h0:hi=0:=by simpa using hhl
    subst h0;simp -dsimp[go_sem];exact key (.slice none 0 c) (.slice none 0 c) (.slice none 0 c) h h λ w=>by simp -dsimp[go_sem]
   | some A=>
    have hhc:hi<=c:=by omega
    have k1:=Zid h hhl;have k3:=Zg0 h hhl;rw[show (l.take hi).length=hi by rw[Q6];omega]at k1;rw[Q7]at k3;obtain ⟨b,o,sp⟩:=A;simp -dsimp[go_sem,hhl,hlc,hhc];refine key _ _ _ k1 k3 λ w=>?_;simp -dsimp[go_sem,hhl,hlc,hhc,rFl]
  unfold Za4.b5;simp -dsimp[go_sem];refine Za (λ p2=>?_) (λ p2=>?_)<;>simp at p2
  ·obtain ⟨b,o,rfl,hb,k1,k2,k3⟩:=Zi0 h p2;have k1:=s2.chg.at k1 id;have k2:=s2.chg.at k2 id;have k3:=s2.chg.at k3 id;obtain ⟨z,hz⟩:∃z,l[hi]=z:=⟨_,rfl⟩;rw[hz]at k1 k2 k3;unfold Za4.b5_1;simp -dsimp[go_sem,p2,k1,k2,k3,y2];unfold Za4.b6;refine Za (λ p3=>?_) (λ p3=>?_)<;>simp at p3
   ·have e:z=a:=by
     refine Prod.ext (Prod.ext ?_ ?_) ?_<;>omega
    exact hR _ _ (Or.inl ⟨hmem.2 ⟨p2,hz.trans e⟩,rfl,s3.chg⟩)
   ·refine fin (λ ha=>?_) _ s3;obtain ⟨_,e⟩:=hmem.1 ha;rw[hz]at e;subst e;exact p3 rfl rfl rfl
  ·unfold Za4.b6;simp -dsimp[go_sem];exact fin (λ ha=>by obtain ⟨e,_⟩:=hmem.1 ha;omega) _ s3
theorem Zwr:Maps.Keyed Tryz.prog 190:=Maps.Keyed.of_law (deep_law (m:=2) (by omega) (by kernel_rfl) (by kernel_rfl) (by kernel_rfl))
theorem Zvs (x:UInt16×UInt16):keyOf Tryz.prog 190 (kTr.val x)=some (kTr.lit x):=by
 have hkt:Tryz.prog.keyType 190=true:=by kernel_rfl
 have hpos:0<Tryz.prog.types.size:=by decide +kernel
 obtain ⟨m,hm⟩:∃m,Tryz.prog.types.size=m+1:=⟨Tryz.prog.types.size-1,by omega⟩;have hu:=Tryz.underlying190;have u3:=Tryz.underlying3;have h1:=UInt16.toNat_lt x.1;have h2:=UInt16.toNat_lt x.2;have w1:(Lit.int .i64 (x.1.toNat:Int)).wf=true:=by
  have hm:IntKind.i64.min = -9223372036854775808:=by decide
  simp[Lit.wf,hm];omega
 have w2:(Lit.int .i64 (x.2.toNat:Int)).wf=true:=by
  have hm:IntKind.i64.min = -9223372036854775808:=by decide
  simp[Lit.wf,hm];omega
 have hc:Tryz.prog.cellsOf 190=2:=by kernel_rfl
 have hc3:Tryz.prog.cellsOf 3=1:=by kernel_rfl
 unfold keyOf;simp only[hu];rw[if_pos (by simp[hkt,Value.formed,hu,hc,kTr]),hm];unfold Program.keyLits;simp only[hu,kTr,Value.cells];rw[if_pos ⟨by rw[hc];rfl,by simp⟩,List.mapM_cons,List.mapM_cons,List.mapM_nil];simp[Program.keyLits,u3,hc3,w1,w2]
theorem mTr:Zl0 Tryz.prog kTr 185 190 3 where
 tm:=Tryz.underlying185
 te:=Tryz.underlying3
 keyed:=Zwr
 key a _:=Zvs a
 zero w:=Tryz.zeroValue3 w
theorem mkTr (w:World):(Instr.makeMap 185 none).run Tryz.prog w = .ok (.map (some w.heap.size)) (w.alloc (.map #[] 0)):=by
 simp[Instr.makeMap,run_underlying Tryz.underlying185,go_sem]
end Go.Proofs.YtjibcckpehdbhaaGreatDoor
namespace Go.Px
theorem St.into {G:Nat->Prop}{W w:World}{L L':List Ch}(h:St G W w L)(j k:Nat){c:Ch}(hj:L[j]?=some c)(hk:L[k]?=some (Ch.all L'))(hjk:j≠k):St G W w ((L.set j Ch.emp).set k (Ch.all (L'++[c]))):=by
 obtain ⟨hc,T,ht,hL⟩:=h;obtain ⟨T',ht',hL'⟩:=hL k _ hk;refine ⟨hc,λ i=>if T i=j+1 then k+1 else T i,λ i hi=>?_,λ n x hn=>?_⟩
 ·by_cases e:T i=j+1
  ·exact ht i (by omega)
  ·dsimp only at hi;rw[if_neg e]at hi;exact ht i hi
 ·rw[Qaq]at hn;by_cases e1:k=n
  ·subst e1;have hkl:=(Qa.1 hk).1;rw[if_pos rfl,if_pos (by simpa using hkl)]at hn;injection hn with hn;subst hn;refine ⟨λ i=>if T i=j+1 then L'.length+1 else if T i=k+1 then T' i else 0,λ i hi=>?_,λ m d hd=>?_⟩
   ·by_cases e2:T i=j+1
    ·exact ⟨by dsimp only;rw[if_pos e2],(ht i (by omega)).2⟩
    ·dsimp only at hi;rw[if_neg e2]at hi;by_cases e3:T i=k+1
     ·rw[if_pos e3]at hi;exact ⟨by dsimp only;rw[if_neg e2];exact e3,(ht' i hi).2⟩
     ·rw[if_neg e3]at hi;exact absurd rfl hi
   ·by_cases hm:m<L'.length
    ·rw[Qf hm]at hd;refine d.keep (X:=noB) (hL' m d hd) (Chg.refl _ _) (λ _ _ _=>id) λ i _ e4=>?_;have h3:=(ht' i (by omega)).1
     show (if T i=j+1 then L'.length+1 else if T i=k+1 then T' i else 0)=m+1
     rw[if_neg (by omega),if_pos h3];exact e4
    ·rw[Qi (by omega)]at hd;have hm0:m=L'.length:=by
      have:=(Qa.1 hd).1;simp at this;omega
     subst hm0;simp at hd;subst hd;refine Ch.keep _ (X:=noB) (hL j _ hj) (Chg.refl _ _) (λ _ _ _=>id) λ i _ e4=>?_
     show (if T i=j+1 then L'.length+1 else if T i=k+1 then T' i else 0)=L'.length+1
     rw[if_pos e4]
  ·rw[if_neg e1,Qaq]at hn;by_cases e2:j=n
   ·subst e2;have hjl:=(Qa.1 hj).1;rw[if_pos rfl,if_pos hjl]at hn;injection hn with hn;subst hn;trivial
   ·rw[if_neg e2]at hn;refine x.keep (X:=noB) (hL n x hn) (Chg.refl _ _) (λ _ _ _=>id) λ i hi e=>?_;dsimp only;rw[if_neg (by omega)];exact e
end Go.Px
namespace Go.Px.Cn
open Go.Px
abbrev SR:=Addr×Nat×List It×Value
def kerV (x:SR):Value := .slice (some x.1) x.2.2.1.length x.2.1
def stV (x:SR):List Value:=[kerV x,x.2.2.2]
def fK (K:List SR)(s:ByteArray):Option Value:=(K.findIdx? λ x=>decide (BA (keyB x.2.2.1)=s)).map λ j=>Value.int .i64 ((j:Int)+1)
def tabL (P:Program)(tb:Nat)(Ast:Option Addr)(cst:Nat)(vat:Value)(m:Nat)(asked:Int)(K:List SR):List Ch :=
 [boxC tb 86 [.slice Ast K.length cst,.int .i64 asked,.int .i64 K.length,vat],Zdt P kStr 9 vat m (fK K),rowC 95 2 Ast K.length cst (K.flatMap stV),Ch.all (K.map λ x=>qC 2 x.1 x.2.2.1.length x.2.1 (x.2.2.1.flatMap itV))]
theorem Zyw (l:List It):(keyB l).length=l.length*3:=by
 induction l with
 | nil=>rfl
 | cons x r ih=>
  unfold keyB at ih |-;rw[Qan,Qq,ih,Qb1];simp;omega
def Sml (l:List It):Prop:=∀x∈l,x.1<256/\x.2<65536
theorem ZZ24 {K:List SR}{l:List It}(hK:∀x∈K,Sml x.2.2.1)(hl:Sml l)(h:∀x∈K,x.2.2.1≠l):fK K (BA (keyB l))=none:=by
 unfold fK;rw[List.findIdx?_eq_none_iff.2]
 ·rfl
 ·intro x hx;rw[decide_eq_false];intro e;exact h x hx (Zjr (hK x hx) hl (Zwj e))
theorem ZZ87 {K:List SR}{l:List It}(hK:∀x∈K,Sml x.2.2.1)(hl:Sml l){j:Nat}{x:SR}(hj:K[j]?=some x)(hx:x.2.2.1=l)(hnd:(K.map λ x=>x.2.2.1).Nodup):fK K (BA (keyB l))=some (.int .i64 ((j:Int)+1)):=by
 unfold fK;have hjl:=(Qa.1 hj).1;have e:K.findIdx? (λ x=>decide (BA (keyB x.2.2.1)=BA (keyB l)))=some j:=by
  rw[Qc0];refine ⟨hjl,by rw[(Qa.1 hj).2,hx];simp,λ i hi=>?_⟩;have hil:i<K.length:=by omega
  have:K[i].2.2.1≠l:=λ e=>by
   have h9:=(Qt.1 hnd) i j (by simpa using hil) (by simpa using hjl) hi;simp only[Q8]at h9;rw[e,(Qa.1 hj).2,hx]at h9;exact h9 rfl
  simp only[decide_eq_true_eq];exact λ e=>this (Zjr (hK _ (Qj hil)) hl (Zwj e))
 rw[e];rfl
theorem ZZ30 {K:List SR}{y:SR}(hK:∀x∈K,Sml x.2.2.1)(hy:Sml y.2.2.1)(h:∀x∈K,x.2.2.1≠y.2.2.1):fK (K++[y]) (BA (keyB y.2.2.1))=some (.int .i64 ((K.length:Int)+1))/\∀s,s≠BA (keyB y.2.2.1)->fK (K++[y]) s=fK K s:=by
 refine ⟨?_,λ s hs=>?_⟩
 ·unfold fK;have e:(K++[y]).findIdx? (λ x=>decide (BA (keyB x.2.2.1)=BA (keyB y.2.2.1)))=some K.length:=by
   rw[Qc0];refine ⟨by simp,by simp,λ i hi=>?_⟩;rw[List.getElem_append_left hi];simp only[decide_eq_true_eq];exact λ e=>h _ (Qj hi) (Zjr (hK _ (Qj hi)) hy (Zwj e))
  rw[e];rfl
 ·unfold fK;rw[List.findIdx?_append];have:List.findIdx? (λ x:SR=>decide (BA (keyB x.2.2.1)=s)) [y]=none:=by
   rw[List.findIdx?_eq_none_iff];intro x hx;rw[Qg]at hx;subst hx;exact decide_eq_false λ e=>hs e.symm
  rw[this];simp
end Go.Px.Cn
namespace Go.Proofs.YtjibcckpehdbhaaGreatDoor
open Go.Px Go.Px.Scan Go.Px.Cn Go.RowKit
attribute [-go_sem] Builtin.append_ Zak.b3 Zak.b5_1 Zak.b5 Zak.b4_1 Zak.b4
theorem mAt:Zk1 Tryz.prog kStr 84 9 3 (.int .i64 0) where
 tm:=Tryz.underlying84
 keyed:=Maps.string_keyed Tryz.underlying9
 key a ha:=mStr.key a ha
 zero w:=Tryz.zeroValue3 w
theorem ZZ97:Tryz.prog.underlying 32=some (.slice 95):=Tryz.underlying32
theorem ZZ118:(Tryz.prog.info? 95).map (λ i=>(i.zero,i.size,i.bytes))=some (some (.agg #[.slice none 0 0,.slice none 0 0]),2,48):=by kernel_rfl
theorem ZZ124 (a:Option Addr)(n c:Nat)(w:World):(Instr.build 95 #[(0,.slice a n c)]).run Tryz.prog w = .ok (.agg #[.slice a n c,.slice none 0 0]) w:=by simp[go_sem]
attribute [go_sem ↓] ZZ124
theorem Zoe {G:Nat->Prop}{W w:World}{M:List Ch}{tb:Nat}{Ast:Option Addr}{cst:Nat}{vat:Value}{m:Nat}{asked:Int}{K:List SR}{jm:Nat}{a:Addr}{c:Nat}{l:List It}
  (s:St G W w (tabL Tryz.prog tb Ast cst vat m asked K++M)) (hM:M[jm]?=some (qC 2 a l.length c (l.flatMap itV))) (hK:∀x∈K,Sml x.2.2.1) (hKne:∀x∈K,x.2.2.1≠[]) (hnd:(K.map λ x=>x.2.2.1).Nodup) (hl:Sml l) (hne:l≠[]) (hll:l.length<=1000000) (hm:m<=100000000) (hKl:K.length<=1000) :
  Ct Tryz.prog Zak.id #[.pointer (some ⟨tb,0,none⟩),.slice (some a) l.length c] w λ v w'=>∃(Ast':Option Addr) (cst' m':Nat) (asked':Int) (K':List SR),m'<=m+1/\(∃j:Nat,v = .int .i64 j/\(K'.map λ x=>x.2.2.1)[j]?=some l)/\St G W w' (tabL Tryz.prog tb Ast' cst' vat m' asked' K'++M.set jm Ch.emp) /\
   ((K'=K/\∃x∈K,x.2.2.1=l)\/(K'=K++[(a,c,l,.slice none 0 0)]/\∀x∈K,x.2.2.1≠l)):=by
 refine Zak.ct λ R hR=>?_;have y1:=(s.box 0 rfl).1;have f1:=(s.box 0 rfl).2.1;have y11:=y1.2.1;have s2:=s.set 0 rfl 1 (.int .i64 (IntKind.i64.wrap (asked+1)));obtain ⟨asked',hasked⟩:∃q,IntKind.i64.wrap (asked+1)=q:=⟨_,rfl⟩;unfold Zak.run;simp -dsimp[go_sem,y11,f1,hasked];rw[hasked]at s2;have s2:St G W (w.setCell ⟨tb,1,none⟩ (.int .i64 asked')) (tabL Tryz.prog tb Ast cst vat m asked' K++M):=s2;clear s y1 f1 y11;generalize w.setCell ⟨tb,1,none⟩ (.int .i64 asked')=w2 at s2 |-;have hk4:∀(m':Nat) (cst':Nat) (Ast':Option Addr) (asked':Int) (K':List SR),(tabL Tryz.prog tb Ast' cst' vat m' asked' K'++M)[jm+4]?=some (qC 2 a l.length c (l.flatMap itV)):=λ m' cst' Ast' asked' K'=>hM;have hrd:=ZZ42 s2 (jm+4) (hk4 _ _ _ _ _);refine Zi (ZZ146 hrd (Ql _) hll λ x hx=>by have:=hl x hx;omega) ?_;rintro _ w3 ⟨rfl,hc3⟩;have s3:=s2.old hc3;obtain ⟨key,hkey⟩:∃key,BA (keyB l)=key:=⟨_,rfl⟩;have hgood:kStr.good key:=by
  rw[<-hkey]
  show (BA (keyB l)).size<=maxLen
  rw[ZZ85];rw[Zyw];unfold maxLen;omega
 have y3:=(s3.box 0 rfl).1;have y30:=y3.1;have y33:=y3.2.2.2.1;have hl3:(Instr.lookup 84 vat (.string key) false).run Tryz.prog w3=_:=s3.mapVGet mAt 1 rfl key hgood;have s3d:=s3.old ((Chg.refl noB w3).drew);have hl3d:(Instr.lookup 84 vat (.string key) false).run Tryz.prog w3.drew=_:=s3d.mapVGet mAt 1 rfl key hgood;rw[hkey];unfold Zak.b4;by_cases hex:∃x∈K,x.2.2.1=l
 ·obtain ⟨x,hx,hxl⟩:=hex;obtain ⟨j,hj⟩:=Qo.1 hx;have hjl:=(Qa.1 hj).1;have hf:fK K key=some (.int .i64 ((j:Int)+1)):=by rw[<-hkey];exact ZZ87 hK hl hj hxl hnd
  rw[hf]at hl3 hl3d;simp only[Qb0]at hl3 hl3d;have wj:IntKind.i64.wrap ((j:Int)+1-1)=(j:Int):=by rw[IntWalk.i64_in _ (by omega)];omega
  have hj0:(0:Int)<(j:Int)+1:=by omega
  simp -dsimp[go_sem,y33,hl3,hl3d,hj0];obtain ⟨F2,ho2,_⟩:=s3.get (k:=2) rfl;obtain ⟨gs,es,hst,_⟩:=Zck ho2 (λ _ _=>rfl) (by decide) hj;have st0:=hst 0 _ rfl;subst es;obtain ⟨F3,s3k,_⟩:=s3.inAll' 3 rfl;obtain ⟨hlen',_,_,hsp',hcl'⟩:=q_it s3k j (a:=x.1) (n:=x.2.2.1.length) (c:=x.2.1) (l:=x.2.2.1) (by rw[Qh,hj];rfl);obtain ⟨_,_,_,hsp,hcl⟩:=q_it s3 (jm+4) (hk4 _ _ _ _ _);obtain ⟨ag,ao,asp⟩:=a;simp only at hsp;subst hsp;obtain ⟨⟨xg,xo,xsp⟩,xc,xl,xe⟩:=x;simp only at hxl hsp' hcl' st0;subst hsp' hxl;have hpos:0<xl.length:=Qa6.2 hne;obtain ⟨p1,p2⟩:=hcl' 0 _ (Qb hpos);obtain ⟨r1,r2⟩:=hcl 0 _ (Qb hpos);simp only[Nat.zero_mul,Qb3]at p1 p2 r1 r2;simp only[Qb3,kerV]at st0;have e00:(((xl[0].1:Nat):Int) == ((xl[0].1:Nat):Int) && ((xl[0].2:Nat):Int) == ((xl[0].2:Nat):Int))=true:=by simp
  unfold Zak.b4_1;have wj2:IntKind.i64.wrap (j:Int)=(j:Int):=IntWalk.i64_in _ (by omega);have hjK:(0:Int)<=(j:Int)/\(j:Int)<(K.length:Int):=⟨by omega,by omega⟩;simp -dsimp[go_sem,y30,y33,hl3,hl3d,wj,wj2,hjK,hjl,st0,hpos,p1,p2,r1,r2,e00];unfold Zak.b5;simp -dsimp[go_sem];unfold Zak.b5_1;simp -dsimp[go_sem,y33,hl3d,wj,wj2];refine hR _ _ ⟨some ⟨gs,0,none⟩,cst,m,asked',K,by omega,⟨j,rfl,by rw[Qh,hj];rfl⟩,?_,Or.inl ⟨rfl,_,Qe hj,rfl⟩⟩;have:=s3d.turn (k:=jm+4) (hk4 _ _ _ _ _) (d:=Ch.emp) λ _ _=>trivial;exact this
 ·have hno:∀x∈K,x.2.2.1≠l:=λ x hx e=>hex ⟨x,hx,e⟩;have hf:fK K key=none:=by rw[<-hkey];exact ZZ24 hK hl hno
  rw[hf]at hl3 hl3d;simp only[Qdq]at hl3 hl3d;simp -dsimp[go_sem,y33,hl3,hl3d];clear hl3 hl3d y30 y33 y3;generalize w3.drew=w4 at s3d |-;clear s3;have y4:=(s3d.box 0 rfl).1;have f4:=(s3d.box 0 rfl).2.1;have y42:=y4.2.2.1;have wK:IntKind.i64.wrap ((K.length:Int)+1)=(K.length:Int)+1:=IntWalk.i64_in _ (by omega);have s5:=s3d.set 0 rfl 2 (.int .i64 ((K.length:Int)+1));unfold Zak.b5;simp -dsimp[go_sem];unfold Zak.b3;have y50:=(s5.box 0 rfl).1.1;have hsz5:(w4.setCell ⟨tb,2,none⟩ (.int .i64 ((K.length:Int)+1))).heap.size=w4.heap.size:=by simp
  simp -dsimp[go_sem,y42,f4,wK,y50];have s5:St G W (w4.setCell ⟨tb,2,none⟩ (.int .i64 ((K.length:Int)+1))) ([boxC tb 86 [.slice Ast K.length cst,.int .i64 asked',.int .i64 ((K.length:Int)+1),vat],Zdt Tryz.prog kStr 9 vat m (fK K),rowC 95 2 Ast K.length cst (K.flatMap stV),Ch.all (K.map λ x=>qC 2 x.1 x.2.2.1.length x.2.1 (x.2.2.1.flatMap itV))]++M):=s5;rw[<-hsz5];clear y50 y4 f4 y42 hsz5 s3d;generalize w4.setCell ⟨tb,2,none⟩ (.int .i64 ((K.length:Int)+1))=w5 at s5 |-;refine s5.append1 2 rfl ZZ97 ZZ118 rfl (by decide) (news:=stV (a,c,l,.slice none 0 0)) rfl (by simp[stV,kerV,Value.oneCell']) (by unfold maxLen;omega) (by unfold Zaf;omega) ?_;intro gs cap w6 s6;have f6:=(s6.box 0 rfl).2.1;have y60:=(s6.box 0 rfl).1.1;have y63:=(s6.box 0 rfl).1.2.2.2.1;have s7:=s6.set 0 rfl 0 (.slice (some ⟨gs,0,none⟩) (K.length+1) cap);have s7:=s7.old ((Chg.refl noB _).drew);have c70:=(s7.box 0 rfl).1.1;simp -dsimp[go_sem,f6,y60,y63];generalize (w6.setCell ⟨tb,0,none⟩ (.slice (some ⟨gs,0,none⟩) (K.length+1) cap)).drew=w7 at s7 |-;have hKK:(K.length:Int)+1=((K++[((a,c,l,Value.slice none 0 0):SR)]).length:Nat):=by simp
  obtain ⟨hk1,hk2⟩:=ZZ30 (K:=K) (y:=(a,c,l,.slice none 0 0)) hK hl hno;rw[hkey]at hk1 hk2;obtain ⟨w8,hrun,s8⟩:=s7.mapVPut mAt 1 rfl key hgood (by unfold maxLen;omega) (.int .i64 ((K.length:Int)+1)) (fK (K++[(a,c,l,.slice none 0 0)])) hk1 hk2;have hrun:(Instr.mapUpdate 84 vat (.string key) (.int .i64 ((K.length:Int)+1))).run Tryz.prog w7 = .ok () w8:=hrun;have y83:=(s8.box 0 rfl).1.2.2.2.1;have hl8:(Instr.lookup 84 vat (.string key) false).run Tryz.prog w8=_:=s8.mapVGet mAt 1 rfl key hgood;rw[hk1]at hl8;simp only[Qb0]at hl8;have wj:IntKind.i64.wrap ((K.length:Int)+1-1)=(K.length:Int):=by rw[IntWalk.i64_in _ (by omega)];omega
  have wj2:IntKind.i64.wrap (K.length:Int)=(K.length:Int):=IntWalk.i64_in _ (by omega);simp -dsimp[go_sem,hrun,y83,hl8,wj,wj2];have eS:(K++[((a,c,l,Value.slice none 0 0):SR)]).flatMap stV=K.flatMap stV++stV (a,c,l,.slice none 0 0):=by simp
  have s9:St G W w8 ([boxC tb 86 [.slice (some ⟨gs,0,none⟩) (K.length+1) cap,.int .i64 asked',.int .i64 ((K.length:Int)+1),vat],Zdt Tryz.prog kStr 9 vat (m+1) (fK (K++[(a,c,l,.slice none 0 0)])),rowC 95 2 (some ⟨gs,0,none⟩) (K.length+1) cap (K.flatMap stV++stV (a,c,l,.slice none 0 0)),Ch.all (K.map λ x=>qC 2 x.1 x.2.2.1.length x.2.1 (x.2.2.1.flatMap itV))]++M):=s8;have s10:=s9.into (jm+4) 3 hM rfl (by omega);refine hR _ _ ⟨some ⟨gs,0,none⟩,cap,m+1,asked',K++[(a,c,l,.slice none 0 0)],by omega,⟨K.length,rfl,by simp⟩,?_,Or.inr ⟨rfl,hno⟩⟩;unfold tabL;rw[eS,Qq,Qu];exact s10
open Go.Proofs Go.Shelf
def Zo9:Go.Shelf.Ren:=⟨fun | 189=>36 | 125=>92 | 257=>91 | 128=>164 | 129=>165 | 294=>155 | 295=>156 | 296=>157 | 297=>158 | 298=>159 | 299=>160 | 216=>161 | 300=>162 | 301=>163 | 328=>222 | 329=>223 | 330=>224 | 331=>225 | 332=>226 | 215=>167 | 343=>274 | n=>n,fun | 28=>24 | 3=>3 | 46=>211 | 0=>0 | 51=>285 | 53=>263 | 4=>4 | 183=>277 | 182=>276 | 131=>282 | 5=>5 | 9=>9 | 218=>353 | 222=>357 | 228=>406 | 229=>395 | n=>n,fun | n=>n⟩
theorem sortInt:Go.Proofs.Lays.n189 Tryz.prog Zo9 where
 mixed:=by kernel_rfl
 f125:=Tryz.func92.trans (congrArg some (by kernel_rfl))
 f128:=Tryz.func164.trans (congrArg some (by kernel_rfl))
 f129:=Tryz.func165.trans (congrArg some (by kernel_rfl))
 f189:=Tryz.func36.trans (congrArg some (by kernel_rfl))
 f215:=Tryz.func167.trans (congrArg some (by kernel_rfl))
 f216:=Tryz.func161.trans (congrArg some (by kernel_rfl))
 f257:=Tryz.func91.trans (congrArg some (by kernel_rfl))
 f294:=Tryz.func155.trans (congrArg some (by kernel_rfl))
 f295:=Tryz.func156.trans (congrArg some (by kernel_rfl))
 f296:=Tryz.func157.trans (congrArg some (by kernel_rfl))
 f297:=Tryz.func158.trans (congrArg some (by kernel_rfl))
 f298:=Tryz.func159.trans (congrArg some (by kernel_rfl))
 f299:=Tryz.func160.trans (congrArg some (by kernel_rfl))
 f300:=Tryz.func162.trans (congrArg some (by kernel_rfl))
 f301:=Tryz.func163.trans (congrArg some (by kernel_rfl))
 f328:=Tryz.func222.trans (congrArg some (by kernel_rfl))
 f329:=Tryz.func223.trans (congrArg some (by kernel_rfl))
 f330:=Tryz.func224.trans (congrArg some (by kernel_rfl))
 f331:=Tryz.func225.trans (congrArg some (by kernel_rfl))
 f332:=Tryz.func226.trans (congrArg some (by kernel_rfl))
 f343:=Tryz.func274.trans (congrArg some (by kernel_rfl))
 t0:=Tryz.underlying0
 a0:=Tryz.isAgg0
 z0:=Tryz.sizeOf0
 v0:=Tryz.zeroValue0
 t3:=Tryz.underlying3
 a3:=Tryz.isAgg3
 z3:=Tryz.sizeOf3
 v3:=Tryz.zeroValue3
 t4:=Tryz.underlying4
 a4:=Tryz.isAgg4
 z4:=Tryz.sizeOf4
 v4:=Tryz.zeroValue4
 t5:=Tryz.underlying5
 a5:=Tryz.isAgg5
 z5:=Tryz.sizeOf5
 v5:=Tryz.zeroValue5
 t9:=Tryz.underlying9
 a9:=Tryz.isAgg9
 z9:=Tryz.sizeOf9
 v9:=Tryz.zeroValue9
 t28:=Tryz.underlying24
 a28:=Tryz.isAgg24
 z28:=Tryz.sizeOf24
 v28:=Tryz.zeroValue24
 t46:=Tryz.underlying211
 a46:=Tryz.isAgg211
 z46:=Tryz.sizeOf211
 v46:=Tryz.zeroValue211
 t51:=Tryz.underlying285
 a51:=Tryz.isAgg285
 z51:=Tryz.sizeOf285
 v51:=Tryz.zeroValue285
 t53:=Tryz.underlying263
 a53:=Tryz.isAgg263
 z53:=Tryz.sizeOf263
 v53:=Tryz.zeroValue263
 t131:=Tryz.underlying282
 a131:=Tryz.isAgg282
 z131:=Tryz.sizeOf282
 v131:=Tryz.zeroValue282
 t182:=Tryz.underlying276
 a182:=Tryz.isAgg276
 z182:=Tryz.sizeOf276
 v182:=Tryz.zeroValue276
 t183:=Tryz.underlying277
 a183:=Tryz.isAgg277
 z183:=Tryz.sizeOf277
 v183:=Tryz.zeroValue277
 t218:=Tryz.underlying353
 a218:=Tryz.isAgg353
 z218:=Tryz.sizeOf353
 v218:=Tryz.zeroValue353
 t222:=Tryz.underlying357
 a222:=Tryz.isAgg357
 z222:=Tryz.sizeOf357
 v222:=Tryz.zeroValue357
 t228:=Tryz.underlying406
 a228:=Tryz.isAgg406
 z228:=Tryz.sizeOf406
 v228:=Tryz.zeroValue406
 t229:=Tryz.underlying395
 a229:=Tryz.isAgg395
 z229:=Tryz.sizeOf395
 v229:=Tryz.zeroValue395
open Go.Lib Go.Sort
def ints (l:List Int):List Value:=l.map λ x=>Value.int .i64 x
theorem Zqy {G:Nat->Prop}{W w:World}{L:List Ch}{k c:Nat}{a:Addr}{l:List Int}(s:St G W w L)(hk:L[k]?=some (qC 1 a l.length c (ints l)))(hn:l.length<=1000000000) :
  Ct Tryz.prog Zcf.id #[.slice (some a) l.length c] w λ v w'=>v = .tuple #[]/\∃l':List Int,l'.Perm l/\l'.Pairwise (·<=·)/\St G W w' (L.set k (qC 1 a l'.length c (ints l'))):=by
 obtain ⟨F,ho,hF,hs⟩:=s.opn hk;obtain ⟨h1,h2,h3,h4,h5,h6,h7,h8,h9⟩:=id ho;obtain ⟨g,o,sp⟩:=a;simp only at h4 h5 h6 h7 h8 h9;subst h4;have hH:Holds (Value.int .i64) w g o l.toArray:=λ j hj=>by
  have hj':j<l.length:=by simpa using hj
  refine ⟨h7 j _ ?_,h9 _⟩;unfold ints;rw[Qh,Qb hj'];have:l.toArray[j]! = l[j]:=by simp[hj']
  rw[this];rfl
 have hcon:=Any.slices_Sort_int sortInt g o c l w hH h6 (by omega);refine ⟨enters_of Tryz.func36 (by kernel_rfl) rfl,?_⟩;change Calls Tryz.prog 36 _ _ _ at hcon;refine hcon.mono λ e w' he=>?_;obtain ⟨rfl,m,os,rfl⟩:=he;obtain ⟨l',hl'⟩:∃l',(l.mergeSort λ x y=>decide (x<=y))=l':=⟨_,rfl⟩;have hp:l'.Perm l:=by rw[<-hl'];exact List.mergeSort_perm _ _
 have hsr:l'.Pairwise (·<=·):=by
  rw[<-hl'];have:=List.pairwise_mergeSort (le:=λ x y:Int=>decide (x<=y)) (λ a b c h1 h2=>by simp at *;omega) (λ a b=>by simp;omega) l;exact this.imp λ h=>by simpa using h
 rw[hl'];have hlen:=hp.length_eq;have hH2:=holds_putRow (Value.int .i64) (Sort.ahead w m) g o l.toArray l'.toArray (holds_ahead _ _ _ _ _ _ hH) (by simpa using hlen);refine ⟨rfl,l',hp,hsr,hs _ _ ⟨rfl,rfl,rfl,?_,λ i hi hF'=>?_⟩ ⟨by simp[ints],by omega,h3,rfl,Or.inl h5,?_,λ j u hj=>?_,λ j hj=>?_,λ j=>?_⟩⟩
 ·simp
 ·show (Array.modify w.heap g _++os)[i]?=w.heap[i]?
  rw[Qca (by simpa using hi),Qc4,if_neg (λ e:g=i=>hF' (e ▸ h5))]
 ·simp;omega
 ·have hjl:j<l'.length:=by have:=(Qa.1 hj).1;simpa[ints]using this
  show (grow _ os).cell? ⟨g,o+j,none⟩=some u
  rw[cell?_grow _ _ _ (by simpa using h6),(hH2 j (by simpa using hjl)).1];unfold ints at hj;rw[Qh,Qb hjl]at hj;have:l'.toArray[j]! = l'[j]:=by simp[hjl]
  rw[this];exact hj
 ·show ((grow _ os).cell? ⟨g,o+j,none⟩).isSome=true
  rw[cell?_grow _ _ _ (by simpa using h6)];by_cases hjl:j<l'.length
  ·rw[(hH2 j (by simpa using hjl)).1];rfl
  ·rw[cell?_putRow_other]
   ·exact h8 j hj
   ·refine Or.inr (Or.inr ?_)
    show o+l'.toArray.size<=o+j
    simp;omega
 ·show (grow _ os).frozen? ⟨g,j,none⟩=false
  rw[frozen?_grow _ _ _ (by simpa using h6),frozen?_putRow];exact h9 j
theorem Zmf {w:World}{p:Option Addr}{c:Nat}:Ct Tryz.prog Zcf.id #[.slice p 0 c] w λ v w'=>v = .tuple #[]/\w'=w:=by
 refine ⟨enters_of Tryz.func36 (by kernel_rfl) rfl,?_⟩;have hcon:=Any.slices_Sort_int_none sortInt p c w;change Calls Tryz.prog 36 _ _ _ at hcon;refine hcon.mono λ e w' he=>?_;obtain ⟨rfl,rfl⟩:=he;exact ⟨rfl,rfl⟩
end Go.Proofs.YtjibcckpehdbhaaGreatDoor
namespace Go.Px
theorem St.outof {G:Nat->Prop}{W w:World}{L L':List Ch}(h:St G W w L)(k j:Nat){c:Ch}(hk:L[k]?=some (Ch.all L'))(hj:L'[j]?=some c):St G W w ((L.set k (Ch.all (L'.set j Ch.emp)))++[c]):=by
 obtain ⟨hc,T,ht,hL⟩:=h;obtain ⟨T',ht',hL'⟩:=hL k _ hk;have hkl:=(Qa.1 hk).1;have hjl:=(Qa.1 hj).1;refine ⟨hc,λ i=>if T i=k+1/\T' i=j+1 then L.length+1 else T i,λ i hi=>?_,λ n x hn=>?_⟩
 ·by_cases e:T i=k+1/\T' i=j+1
  ·exact ht i (by omega)
  ·dsimp only at hi;rw[if_neg e]at hi;exact ht i hi
 ·by_cases hnl:n<L.length
  ·rw[Qf (by simpa using hnl),Qaq]at hn;by_cases e1:k=n
   ·subst e1;rw[if_pos rfl,if_pos hkl]at hn;injection hn with hn;subst hn;refine ⟨λ i=>if T' i=j+1 then 0 else T' i,λ i hi=>?_,λ m d hd=>?_⟩
    ·by_cases e2:T' i=j+1
     ·dsimp only at hi;rw[if_pos e2]at hi;exact absurd rfl hi
     ·dsimp only at hi;rw[if_neg e2]at hi;refine ⟨?_,(ht' i hi).2⟩;dsimp only;rw[if_neg (λ h=>e2 h.2)];exact (ht' i hi).1
    ·rw[Qaq]at hd;by_cases e3:j=m
     ·subst e3;rw[if_pos rfl,if_pos hjl]at hd;injection hd with hd;subst hd;trivial
     ·rw[if_neg e3]at hd;refine d.keep (X:=noB) (hL' m d hd) (Chg.refl _ _) (λ _ _ _=>id) λ i _ e4=>?_;have e4':T' i=m+1:=e4;dsimp only;rw[if_neg (by omega)];exact e4
   ·rw[if_neg e1]at hn;refine x.keep (X:=noB) (hL n x hn) (Chg.refl _ _) (λ _ _ _=>id) λ i _ e=>?_;have e':T i=n+1:=e;dsimp only;rw[if_neg (by omega)];exact e
  ·rw[Qi (by simpa using hnl),Qau]at hn;have hn0:n=L.length:=by
    have:=(Qa.1 hn).1;simp at this;omega
   subst hn0;simp at hn;subst hn;refine Ch.keep _ (X:=noB) (hL' j _ hj) (Chg.refl _ _) (λ _ _ _=>id) λ i _ e=>?_;have e':T' i=j+1:=e;have h3:=(ht' i (by omega)).1;dsimp only;rw[if_pos ⟨h3,e'⟩]
def seeC (a:Option Addr)(xs:List Value):Ch where
 ok w F:=∀j u,xs[j]?=some u->∃g o,a=some ⟨g,o,none⟩/\F g/\g<w.heap.size/\w.cell? ⟨g,o+j,none⟩=some u
 keep h hc hX hF j u hj:=by
  obtain ⟨g,o,e,h1,h2,h3⟩:=h j u hj
  exact ⟨g,o,e,hF g h2 h1,Qaj h2 hc.size,(World.cell?_of_block (a:=⟨g,o+j,none⟩) (hc.block g h2 (hX g h2 h1))).trans h3⟩
theorem St.seeAt {G:Nat->Prop}{W w:World}{L:List Ch}(h:St G W w L)(k:Nat){a:Option Addr}{xs:List Value}(hk:L[k]?=some (seeC a xs)){j:Nat}{u:Value}(hj:xs[j]?=some u):∃g o,a=some ⟨g,o,none⟩/\w.cell? ⟨g,o+j,none⟩=some u:=by
 obtain ⟨F,ho,_⟩:=h.get hk;obtain ⟨g,o,e,_,_,h3⟩:=ho j u hj;exact ⟨g,o,e,h3⟩
theorem q_see {size:Nat}{a:Addr}{n c:Nat}{xs:List Value}{w:World}{F:Nat->Prop}(h:(qC size a n c xs).ok w F):(seeC (some a) xs).ok w F:=by
 obtain ⟨h1,h2,h3,h4,h5,h6,h7,_⟩:=h;obtain ⟨g,o,sp⟩:=a;simp only at h4;subst h4;exact λ j u hj=>⟨g,o,rfl,h5,h6,h7 j u hj⟩
end Go.Px
namespace Go.Proofs.YtjibcckpehdbhaaGreatDoor
open Go.Px Go.Px.Scan Go.Px.Cn Go.RowKit
theorem Zyu {G:Nat->Prop}{W w:World}{L:List Ch}{k c:Nat}{a:Option Addr}{l:List Int}(s:St G W w L)(hk:L[k]?=some (rowC 3 1 a l.length c (ints l)))(hn:l.length<=1000000000) :
  Ct Tryz.prog Zcf.id #[.slice a l.length c] w λ v w'=>v = .tuple #[]/\∃l':List Int,l'.Perm l/\l'.Pairwise (·<=·)/\St G W w' (L.set k (seeC a (ints l'))):=by
 have hkl:=(Qa.1 hk).1
 cases l with
 | nil=>
  refine (Zmf).mono λ v w'=>?_;rintro ⟨rfl,rfl⟩;exact ⟨rfl,[],List.Perm.refl _,List.Pairwise.nil,s.turn hk λ F _ j u hj=>by simp[ints]at hj⟩
 | cons x l=>
  obtain ⟨g,rfl,_⟩:=s.rowAt k hk (j:=0) (by simp[ints]);have s1:=s.turn hk (d:=qC 1 ⟨g,0,none⟩ (x::l).length c (ints (x::l))) λ F h=>Znk h;refine (Zqy s1 (Qn hkl) hn).mono λ v w'=>?_;rintro ⟨rfl,l',hp,hsr,s2⟩;rw[Qbe]at s2;refine ⟨rfl,l',hp,hsr,?_⟩;have:=s2.turn (k:=k) (Qn hkl) (d:=seeC (some ⟨g,0,none⟩) (ints l')) λ F h=>q_see h;rw[Qbe]at this;exact this
theorem mKeys:∀key kl,keyOf Tryz.prog 3 key=some kl->∃a:Int,key=kInt.val a/\kl=kInt.lit a/\kInt.good a:=by
 intro key kl h;obtain ⟨x,rfl,rfl,hw⟩:=Maps.keyOf_int_inv Tryz.underlying3 h;refine ⟨x,rfl,rfl,?_⟩;have hm:IntKind.i64.min = -9223372036854775808:=by decide
 simp[Lit.wf,hm]at hw
 show Zdf x
 unfold Zdf;omega
end Go.Proofs.YtjibcckpehdbhaaGreatDoor
namespace Go.Px.Cn
open Go.Px
def ksOf (K:List SR):List (List It):=K.map λ x=>x.2.2.1
def Znp (E:List (Ent Int It))(done:List Int):List Ch:=E.map λ x=>if x.1∈done then Ch.emp else rowC 89 2 x.2.1 x.2.2.2.length x.2.2.1 (x.2.2.2.flatMap itV)
theorem Zu9 (E:List (Ent Int It)):Znp E []=Zdu 89 2 itV E:=by
 unfold Znp Zdu;simp
theorem Zvh {E:List (Ent Int It)}(hn:(E.map (·.1)).Nodup){j:Nat}{x:Ent Int It}(h:E[j]?=some x)(done:List Int):(Znp E done).set j Ch.emp=Znp E (done++[x.1]):=by
 have hjl:=(Qa.1 h).1;refine Qaw λ i=>?_;unfold Znp;rw[Qaq,Qh,Qh,Qp];by_cases e:j=i
 ·subst e;rw[if_pos rfl,if_pos hjl,h];simp
 ·rw[if_neg e]
  cases hi:E[i]? with
  | none=>rfl
  | some y=>
   have hil:=(Qa.1 hi).1;have hne:y.1≠x.1:=λ e2=>by
    have h1:=(Qt.1 hn);rcases Nat.lt_or_gt_of_ne e with h2|h2
    ·have:=h1 j i (by simpa using hjl) (by simpa using hil) h2;simp only[Q8]at this;rw[(Qa.1 h).2,(Qa.1 hi).2]at this;exact this e2.symm
    ·have:=h1 i j (by simpa using hil) (by simpa using hjl) h2;simp only[Q8]at this;rw[(Qa.1 h).2,(Qa.1 hi).2]at this;exact this e2
   simp only[Qbx];congr 1;by_cases h3:y.1∈done
   ·rw[if_pos h3,if_pos (by simp[h3])]
   ·rw[if_neg h3,if_neg (by simp[h3,hne])]
structure KOk (P:Prs)(K:List SR)(i:Nat):Prop where
 bld:BldI P (ksOf K) i
 len:K.length<=256
 ne:∀x∈K,x.2.2.1≠[]
theorem KOk.sml {P:Prs}{K:List SR}{i:Nat}(h:KOk P K i)(hP:P.length<=97):∀x∈K,Sml x.2.2.1:=by
 intro x hx y hy;obtain ⟨j,hj⟩:=Qo.1 hx;have hjl:=(Qa.1 hj).1;have hk:(ksOf K)[j]?=some x.2.2.1:=by unfold ksOf;rw[Qh,hj];rfl
 have h1:=h.bld.val _ (Qe hk) y hy;have h2:=h.bld.dot j _ hk y hy;have:=h.len;omega
structure BfI (F:List (Nat×Nat))(n:Nat):Prop where
 lt:∀p∈F,p.2<n
 new:∀m,1<=m->m<n->∃(k i:Nat),F[k]?=some (i,m)/\i<m/\∀(k':Nat) p,k'<k->F[k']?=some p->p.2<m
theorem BfI.first:BfI [] 1:=⟨by simp,λ m h1 h2=>by omega⟩
theorem BfI.old {F:List (Nat×Nat)}{n i j:Nat}(h:BfI F n)(hj:j<n):BfI (F++[(i,j)]) n:=by
 refine ⟨λ p hp=>?_,λ m h1 h2=>?_⟩
 ·rcases Qk.1 hp with hp|hp
  ·exact h.lt p hp
  ·rw[Qg]at hp;subst hp;exact hj
 ·obtain ⟨k,i',h3,h4,h5⟩:=h.new m h1 h2;have hk:=(Qa.1 h3).1;exact ⟨k,i',by rw[Qf hk];exact h3,h4,λ k' p hk' hp=>h5 k' p hk' (by rw[Qf (by omega)]at hp;exact hp)⟩
theorem BfI.snoc {F:List (Nat×Nat)}{n i:Nat}(h:BfI F n)(hi:i<n):BfI (F++[(i,n)]) (n+1):=by
 refine ⟨λ p hp=>?_,λ m h1 h2=>?_⟩
 ·rcases Qk.1 hp with hp|hp
  ·have:=h.lt p hp;omega
  ·rw[Qg]at hp;subst hp;exact Nat.lt_succ_self _
 ·by_cases e:m=n
  ·subst e;refine ⟨F.length,i,by simp,hi,λ k' p hk' hp=>?_⟩;rw[Qf hk']at hp;exact h.lt p (Qe hp)
  ·obtain ⟨k,i',h3,h4,h5⟩:=h.new m h1 (by omega);have hk:=(Qa.1 h3).1;exact ⟨k,i',by rw[Qf hk];exact h3,h4,λ k' p hk' hp=>h5 k' p hk' (by rw[Qf (by omega)]at hp;exact hp)⟩
def Zfk (ess:List (List (Int×Nat))):List (Nat×Nat):=ess.zipIdx.flatMap λ x=>x.1.map λ e=>(x.2,e.2)
theorem Zrs (ess:List (List (Int×Nat)))(es:List (Int×Nat)):Zfk (ess++[es])=Zfk ess++es.map λ e=>(ess.length,e.2):=by
 unfold Zfk;rw[Qdi,Qab];simp
def edV (e:Int×Nat):List Value:=[.int .i64 e.1,.int .i64 (e.2:Int)]
end Go.Px.Cn
namespace Go.Proofs.YtjibcckpehdbhaaGreatDoor
open Go.Px Go.Px.Scan Go.Px.Cn Go.RowKit
attribute [-go_sem] Builtin.append_ Zn.b15 Zn.b19_1 Zn.b19_2 Zn.b19_3 Zn.b19
theorem ZZ126:Tryz.prog.underlying 93=some (.slice 99):=Tryz.underlying93
theorem iEdge:(Tryz.prog.info? 99).map (λ i=>(i.zero,i.size,i.bytes))=some (some (.agg #[.int .i64 0,.int .i64 0]),2,16):=by kernel_rfl
theorem bEdge (x y:Int)(w:World):(Instr.build 99 #[(0,.int .i64 x),(1,.int .i64 y)]).run Tryz.prog w = .ok (.agg #[.int .i64 x,.int .i64 y]) w:=by simp[go_sem]
theorem bAut (w:World):(Instr.build 34 #[]).run Tryz.prog w = .ok (.agg #[.slice none 0 0,.int .i64 0,.int .i64 0]) w:=by simp[go_sem]
attribute [go_sem ↓] bEdge bAut
def rbC (rb:Nat):Ch:=boxC rb 34 [.slice none 0 0,.int .i64 0,.int .i64 0]
def edL (X:Ch)(rb:Nat)(vk:Value)(n:Nat)(E:List (Ent Int It))(done:List Int)(sy:Option Addr)(S:List Int)(ae:Option Addr)(ne ce:Nat)(ed:List Value):List Ch :=
 [rbC rb,Zdt Tryz.prog kInt 3 vk n (fE E),Ch.all (Znp E done),seeC sy (ints S),rowC 99 2 ae ne ce ed,X]
theorem Zr3 {G:Nat->Prop}{W w:World}{X:Ch}{tb rb i m n cs:Nat}{Ast:Option Addr}{cst:Nat}{vat vk:Value}{asked:Int}{K0:List SR}{E:List (Ent Int It)}{sy:Option Addr}{S:List Int}{P:Prs}{l0 r:List It}{F0:List (Nat×Nat)}
  {R:Ending->World->Prop} {C6:Value->World->Prop}
  (s:St G W w (tabL Tryz.prog tb Ast cst vat m asked K0++edL X rb vk n E [] sy S none 0 0 [])) (hP:P.length<=97) (hK:KOk P K0 i) (hl0:(ksOf K0)[i]?=some l0) (hE:(E.map (·.1)).Nodup) (hvE:∀a,vE E a=kerL P r a) (hkE:∀a,a∈E.map (·.1)↔kerL P r a≠[])
  (hr:∀x,x∈r↔Cl0 P (·∈l0) x) (hrs:r.Pairwise itLt) (hrl:r.length<=200000) (hS:S.Nodup) (hSk:∀a,a∈S↔a∈E.map (·.1)) (hSi:∀a∈S,Zdf a) (hm:m<=30000*i+1) (hi:i<=300) (hSl:S.length<=30000) (hF0:BfI F0 K0.length)
  (hbig:∀w',Chg G W w'->(∃ks i,BldI P ks i/\256<ks.length)->R (.returned (.tuple #[.agg #[.slice none 0 0,.int .i64 0,.int .i64 0],.int .i64 11])) w')
  (hgo:∀w' Ast' cst' m' asked' K' ae ce (es:List (Int×Nat)),m'<=m+S.length->KOk P K' i->(∃t,K'=K0++t)->(∀a∈S,kerL P r a∈ksOf K')->es.map (·.1)=S->(∀e∈es,(ksOf K')[e.2]?=some (kerL P r e.1))->BfI (F0++es.map λ e=>(i,e.2)) K'.length->St G W w' (tabL Tryz.prog tb Ast' cst' vat m' asked' K'++edL X rb vk n E S sy S ae es.length ce (es.flatMap edV))->Zn.b15 R C6 (.pointer (some ⟨tb,0,none⟩)) (.int .i64 i) (.slice ae es.length ce) w') :
  Zn.l18 R C6 (.pointer (some ⟨rb,0,none⟩)) (.pointer (some ⟨tb,0,none⟩)) (.int .i64 i) vk (.slice none 0 0) (.slice sy S.length cs) (.int .i64 S.length) (.int .i64 0) w:=by
 refine Zn.l18_intro _ _ _ _ _ _ _ _ _ _ _ (λ y z w'=>∃(t:Nat) (Ast':Option Addr) (cst' m':Nat) (asked':Int) (K':List SR) (ae:Option Addr) (ce:Nat) (es:List (Int×Nat)),y = .slice ae es.length ce/\z = .int .i64 t/\t<=S.length/\es.length<=t/\m'<=m+t/\KOk P K' i/\(∃q,K'=K0++q)/\(∀a∈S.take t,kerL P r a∈ksOf K')/\es.map (·.1)=S.take t/\(∀e∈es,(ksOf K')[e.2]?=some (kerL P r e.1))/\BfI (F0++es.map λ e=>(i,e.2)) K'.length/\St G W w' (tabL Tryz.prog tb Ast' cst' vat m' asked' K'++edL X rb vk n E (S.take t) sy S ae es.length ce (es.flatMap edV))) (λ _ z _=>S.length-iv z)
  ⟨0,Ast,cst,m,asked,K0,none,0,[],rfl,rfl,by omega,by simp,by omega,hK,⟨[],by simp⟩,by simp,by simp,by simp,by simpa using hF0,s⟩ ?_
 rintro _ _ w1 ⟨t,Ast1,cst1,m1,asked1,K1,ae,ce,es,rfl,rfl,ht,hne,hm1,hK1,⟨q1,hq1⟩,hdone,hes1,hes2,hbf,s1⟩ C hC;have wt:=wS t (by omega);unfold Zn.b19;simp -dsimp[go_sem];refine Za (λ p1=>?_) (λ p1=>?_)<;>simp at p1
 ·obtain ⟨a,hae⟩:∃a,S[t]=a:=⟨_,rfl⟩;have haS:a∈S:=hae ▸ Qj p1;have haK:=(hSk a).1 haS;have et:S.take (t+1)=S.take t++[a]:=by rw[Qd p1,hae]
  have hand:a∉S.take t:=λ h=>by
   have:=hS.sublist (List.take_sublist (t+1) S);rw[et,Qak]at this;exact this.2.2 a h a (by simp) rfl
  obtain ⟨gs,os,hgs,cs1⟩:=s1.seeAt 7 rfl (j:=t) (u := .int .i64 a) (by unfold ints;rw[Qh,Qb p1,hae];rfl);subst hgs;have hl1:(Instr.lookup 91 vk (.int .i64 a) false).run Tryz.prog w1=_:=s1.mapVGet mKer 5 rfl a (hSi a haS);obtain ⟨x,hx,hxa⟩:=Qr.1 haK;obtain ⟨j,hj⟩:=Qo.1 hx;have hfind:=ZZ33 hE hj hxa;have hf:fE E a=some (valE x):=by unfold fE;rw[hfind];rfl
  have hxv:x.2.2.2=kerL P r a:=by rw[<-hvE];unfold vE;rw[hfind];rfl
  rw[hf]at hl1;simp only[Qb0,valE]at hl1;have hkne:=(hkE a).1 haK;have hklen:(kerL P r a).length<=200000:=Qav (Zqz P r a) hrl;have hksr:=Zy1 (P:=P) hrs a;have hknd:(kerL P r a).Nodup:=hksr.imp λ {x y} h e=>by subst e;exact Zie _ h
  have hkr:(Znp E (S.take t))[j]?=some (rowC 89 2 x.2.1 x.2.2.2.length x.2.2.1 (x.2.2.2.flatMap itV)):=by
   unfold Znp;rw[Qh,hj];simp only[Qbx];rw[if_neg (by rw[hxa];exact hand)]
  have s2:=s1.outof 6 j rfl hkr;rw[Zvh hE hj,hxa,<-et]at s2;have hpos:0<x.2.2.2.length:=by rw[hxv];exact Qa6.2 hkne
  obtain ⟨Fx,hox,_⟩:=s2.get (k:=10) rfl;obtain ⟨xg,hxg,_⟩:=Zck hox (λ _ _=>rfl) (by decide) (i:=0) (x:=x.2.2.2[0]) (Qb hpos);obtain ⟨cx,hcx⟩:∃cx,x.2.2.1=cx:=⟨_,rfl⟩;have s3:=s2.turn (k:=10) rfl (d:=qC 2 ⟨xg,0,none⟩ x.2.2.2.length x.2.2.1 (x.2.2.2.flatMap itV)) λ F h=>by rw[hxg]at h;exact Znk h
  rw[hxv]at s3 hl1 hpos;rw[hxg]at hl1;rw[hcx]at s3 hl1;have s3:St G W w1 (tabL Tryz.prog tb Ast1 cst1 vat m1 asked1 K1++(edL X rb vk n E (S.take (t+1)) (some ⟨gs,os,none⟩) S ae es.length ce (es.flatMap edV)++[qC 2 ⟨xg,0,none⟩ (kerL P r a).length cx ((kerL P r a).flatMap itV)])):=s3;obtain ⟨ka,hka⟩:∃ka,kerL P r a=ka:=⟨_,rfl⟩;rw[hka]at s3 hl1 hpos hkne hklen hksr hknd;unfold Zn.b19_3;simp -dsimp[go_sem,p1,cs1,hl1];refine Zi (Zul s3 (k:=10) rfl hknd (by omega)) ?_;rintro _ w2 ⟨rfl,l',hp,hsr,s4⟩;have hl':l'=ka:=Zkp hsr hksr λ y=>hp.mem_iff;subst hl';have s4:St G W w2 (tabL Tryz.prog tb Ast1 cst1 vat m1 asked1 K1++(edL X rb vk n E (S.take (t+1)) (some ⟨gs,os,none⟩) S ae es.length ce (es.flatMap edV)++[qC 2 ⟨xg,0,none⟩ l'.length l'.length (l'.flatMap itV)])):=s4;have hgo':∀x,x∈l'↔Go0 P (·∈l0) a x:=λ x=>by rw[<-hka];exact Zij hr a x
  have hl01:(ksOf K1)[i]?=some l0:=by
   rw[hq1];unfold ksOf at hl0 |-;rw[Qu,Qf (Qa.1 hl0).1];exact hl0
  have hl0m:=Qe hl01;have hrv:Val P r:=λ x hx=>((hr x).1 hx).val (hK1.bld.val l0 hl0m);have hlv:Val P l':=by rw[<-hka];exact Zxg hrv a
  have hrd:∀x∈r,x.2<=i:=λ x hx=>((hr x).1 hx).dotle (hK1.bld.dot i l0 hl01);have hld:∀x∈l',x.2<=i+1:=by rw[<-hka];exact Zxy hrd a
  have hsml:Sml l':=λ x hx=>by
   have h1:=hlv x hx;have h2:=hld x hx;omega
  refine Zi (Zoe s4 (jm:=6) rfl (hK1.sml hP) hK1.ne hK1.bld.nd hsml hkne (by omega) (by omega) (by have:=hK1.len;omega)) ?_;rintro _ w3 ⟨Ast3,cst3,m3,asked3,K3,hm3,⟨jv,rfl,hjv⟩,s5,hcase⟩;have s5:St G W w3 (tabL Tryz.prog tb Ast3 cst3 vat m3 asked3 K3++edL X rb vk n E (S.take (t+1)) (some ⟨gs,os,none⟩) S ae es.length ce (es.flatMap edV)):=s5.take 10;have hb3:BldI P (ksOf K3) i/\(∀x∈K3,x.2.2.1≠[])/\(∃q,K3=K0++q)/\(∀b∈S.take (t+1),kerL P r b∈ksOf K3):=by
   rcases hcase with ⟨rfl,y,hy,hyl⟩|⟨rfl,hno⟩
   ·refine ⟨hK1.bld,hK1.ne,⟨q1,hq1⟩,λ b hb=>?_⟩;rw[et]at hb;rcases Qk.1 hb with hb|hb
    ·exact hdone b hb
    ·rw[Qg]at hb;subst hb;rw[hka];exact Qr.2 ⟨y,hy,hyl⟩
   ·have e:ksOf (K1++[(⟨xg,0,none⟩,l'.length,l',Value.slice none 0 0)])=ksOf K1++[l']:=by unfold ksOf;simp
    refine ⟨?_,λ y hy=>?_,⟨q1++[(⟨xg,0,none⟩,l'.length,l',Value.slice none 0 0)],by rw[hq1];simp⟩,λ b hb=>?_⟩
    ·rw[e];exact hK1.bld.snoc hl01 hgo' hkne hlv hld hksr λ hm=>by
      obtain ⟨y,hy,hyl⟩:=Qr.1 hm;exact hno y hy hyl
    ·rcases Qk.1 hy with hy|hy
     ·exact hK1.ne y hy
     ·rw[Qg]at hy;subst hy;exact hkne
    ·rw[e];rw[et]at hb;rcases Qk.1 hb with hb|hb
     ·exact Q0 _ (hdone b hb)
     ·rw[Qg]at hb;subst hb;rw[hka];simp
  have hKl:K3.length<=257:=by
   have:=hK1.len;rcases hcase with ⟨rfl,_⟩|⟨rfl,_⟩
   ·omega
   ·simp;omega
  have hbf3:BfI ((F0++es.map λ e=>(i,e.2))++[(i,jv)]) K3.length:=by
   have hjl:=(Qa.1 hjv).1;rw[Qp]at hjl;rcases hcase with ⟨rfl,_⟩|⟨rfl,hno⟩
   ·exact hbf.old hjl
   ·have hjK:jv=K1.length:=by
     refine Qv λ hne=>?_;rw[Qq,Qby]at hjl;have hlt:jv<K1.length:=by omega
     rw[Qu,Qf (by simpa using hlt),Qh]at hjv;obtain ⟨y,hy,hyl⟩:=Q4.1 hjv;exact hno y (Qe hy) hyl
    subst hjK;rw[Qq,Qby];refine hbf.snoc ?_;have:=(Qa.1 hl01).1;unfold ksOf at this;simpa using this
  unfold Zn.b19_2;simp -dsimp[go_sem];refine s5.append1 8 rfl ZZ126 iEdge rfl (by decide) (news:=[.int .i64 a,.int .i64 jv]) rfl (by simp[Value.oneCell']) (by unfold maxLen;omega) (by unfold Zaf;omega) ?_;intro eg cap w4 s6;have s6:St G W w4 (tabL Tryz.prog tb Ast3 cst3 vat m3 asked3 K3++edL X rb vk n E (S.take (t+1)) (some ⟨gs,os,none⟩) S (some ⟨eg,0,none⟩) (es++[(a,jv)]).length cap ((es++[(a,jv)]).flatMap edV)):=by
   rw[Qab,Qq];exact s6
  have y6:=(s6.box 0 rfl).1.1;simp -dsimp[go_sem,y6];refine Za (λ p2=>?_) (λ p2=>?_)
  ·have f6:=(s6.box 4 rfl).2.1;have s7:=(((s6.set 4 rfl 0 (.slice none 0 0)).set 4 rfl 1 (.int .i64 0)).set 4 rfl 2 (.int .i64 0));have y7:=(s7.box 4 rfl).1;have y70:=y7.1;have y71:=y7.2.1;have y72:=y7.2.2.1;unfold Zn.b19_1;have z6:=(s6.box 4 rfl).1;have z60:=z6.1;have z61:=z6.2.1;have z62:=z6.2.2.1;simp -dsimp[go_sem,f6,z60,z61,z62];have hgt:256<K3.length:=by
    have:(256:Int)<K3.length:=by simpa using p2
    omega
   exact hbig _ s7.chg ⟨_,_,hb3.1,by unfold ksOf;rw[Qp];exact hgt⟩
  ·have hle:K3.length<=256:=by
    have:(K3.length:Int)<=256:=by simpa using p2
    omega
   simp -dsimp[go_sem,wt];refine hC _ _ _ ⟨t+1,Ast3,cst3,m3,asked3,K3,some ⟨eg,0,none⟩,cap,es++[(a,jv)],by simp,by simp,by omega,by simp;omega,by omega,⟨hb3.1,hle,hb3.2.1⟩,hb3.2.2.1,hb3.2.2.2,by rw[Qu,hes1,et];rfl,λ e he=>?_,?_,s6⟩ (by simp[iv];omega);rotate_left
   ·rw[Qu,<-Q5];exact hbf3
   rcases Qk.1 he with he|he
   ·have h1:=hes2 e he;rcases hcase with ⟨rfl,_⟩|⟨rfl,_⟩
    ·exact h1
    ·unfold ksOf at h1 |-;rw[Qu,Qf (Qa.1 h1).1];exact h1
   ·rw[Qg]at he;subst he;rw[hka];exact hjv
 ·have hte:t=S.length:=by omega
  subst hte;rw[Qm]at hdone hes1 s1;exact hgo w1 Ast1 cst1 m1 asked1 K1 ae ce es hm1 hK1 ⟨q1,hq1⟩ hdone hes1 hes2 hbf s1
end Go.Proofs.YtjibcckpehdbhaaGreatDoor
namespace Go.Px.Cn
open Go.Px
theorem ZZ159 {l:List It}(hnd:l.Nodup)(h:∀x∈l,x.1<97/\x.2<300):l.length<=29100:=by
 have e:(l.map λ x=>x.1*300+x.2).Nodup:=by
  rw[List.Nodup,Qbk];refine hnd.imp_of_mem λ {a b} ha hb hab e=>hab ?_;have h1:=h a ha;have h2:=h b hb;exact Prod.ext (by omega) (by omega)
 have:=Zrd (n:=29100) e λ x hx=>by
  obtain ⟨y,hy,rfl⟩:=Qr.1 hx;have:=h y hy
  show y.1*300+y.2<29100
  omega
 simpa using this
theorem KOk.kernel {P:Prs}{K:List SR}{i:Nat}(h:KOk P K i)(hP:P.length<=97){j:Nat}{x:SR}(hj:K[j]?=some x):(ksOf K)[j]?=some x.2.2.1/\R0 P (·∈x.2.2.1)/\Val P x.2.2.1/\x.2.2.1.Pairwise itLt/\x.2.2.1.Nodup/\x.2.2.1.length<=29100/\(∀y∈x.2.2.1,y.2=0->y=(0,0)):=by
 have hk:(ksOf K)[j]?=some x.2.2.1:=by unfold ksOf;rw[Qh,hj];rfl
 have hm:=Qe hk;have hs:=h.bld.srt _ hm;have hnd:x.2.2.1.Nodup:=hs.imp λ {x y} h e=>by subst e;exact Zie _ h
 have hjl:=(Qa.1 hj).1;have hlen:=h.len;refine ⟨hk,h.bld.r0 _ hm,h.bld.val _ hm,hs,hnd,ZZ159 hnd λ y hy=>?_,λ y hy h0=>?_⟩
 ·have h1:=h.bld.val _ hm y hy;have h2:=h.bld.dot j _ hk y hy;omega
 ·rcases (h.bld.r0 _ hm).dots with h1|h1
  ·exact (h1 y).1 hy
  ·have:=h1 y hy;omega
theorem pw_lt {l:List Int}(h:l.Pairwise (·<=·))(hn:l.Nodup):l.Pairwise (· < ·):=by
 refine Qt.2 λ i j hi hj hij=>?_;have h1:=Qt.1 h i j hi hj hij;have h2:=Qt.1 hn i j hi hj hij;omega
end Go.Px.Cn
namespace Go.Proofs.YtjibcckpehdbhaaGreatDoor
open Go.Px Go.Px.Scan Go.Px.Cn Go.RowKit
def ZZ141:Value->Nat | .slice _ n _=>n | _=>0
attribute [-go_sem] Builtin.append_ Zn.b15 Zn.b9 Zn.b11 Zn.b20 Zn.b23 Zn.b23_1 Zn.b13 Zn.b16
theorem Zvo {G:Nat->Prop}{W w:World}{L:List Ch}{n i:Nat}{vk:Value}{E:List (Ent Int It)}{RS:List Ch}
  {R:Ending->World->Prop} {C6:Value->World->Prop} {x2 x5:Value}
  (s:St G W w (L++[Zdt Tryz.prog kInt 3 vk n (fE E),Ch.all RS])) (hE:(E.map (·.1)).Nodup) (hEl:E.length<=30000)
  (hgo:∀w' sy cs (S:List Int),S.Nodup->S.Pairwise (· < ·)->(∀a,a∈S↔a∈E.map (·.1))->S.length<=30000->St G W w' (L++[Zdt Tryz.prog kInt 3 vk n (fE E),Ch.all RS,seeC sy (ints S)])->Zn.b16 R C6 x2 x5 (.int .i64 i) vk (.slice sy S.length cs) (.slice none 0 0) w') :
  Zn.b20 R C6 x2 x5 (.int .i64 i) vk (.slice none 0 0) w:=by
 have hk0:(L++[Zdt Tryz.prog kInt 3 vk n (fE E),Ch.all RS])[L.length]?=some (Zdt Tryz.prog kInt 3 vk n (fE E)):=by rw[Qi (Ql _),Qam];rfl
 obtain ⟨it,cnt,w1,hrun,s1⟩:=s.rngV mKer L.length hk0;rw[Qac _ _ (Ql _),Qam]at s1;have s1:St G W w1 (L++[Zmi Tryz.prog kInt 3 vk it n (fE E) cnt (λ a=>(fE E a).isSome),Ch.all RS]):=s1;unfold Zn.b20;simp -dsimp[go_sem,hrun];have s2:=s1.nilRow 3 1;rw[Q5]at s2;have hkeys:∀a,(fE E a).isSome=true↔a∈E.map (·.1):=λ a=>by
  unfold fE;rw[Option.isSome_map,List.find?_isSome];constructor
  ·rintro ⟨x,hx,he⟩;exact Qr.2 ⟨x,hx,by simpa using he⟩
  ·intro h;obtain ⟨x,hx,he⟩:=Qr.1 h;exact ⟨x,hx,by simpa using he⟩
 refine Zn.l22_intro _ _ _ _ _ _ _ _ _ (λ y w'=>∃(sy:Option Addr) (cs cnt:Nat) (S:List Int) (left:Int->Bool),y = .slice sy S.length cs/\S.Nodup/\(∀a∈S,a∈E.map (·.1))/\(∀a,left a=true↔(a∈E.map (·.1)/\a∉S))/\St G W w' (L++[Zmi Tryz.prog kInt 3 vk it n (fE E) cnt left,Ch.all RS,rowC 3 1 sy S.length cs (ints S)])) (λ y _=>E.length+1-ZZ141 y)
  ⟨none,0,cnt,[],_,rfl,by simp,by simp,λ a=>by rw[hkeys];simp,s2⟩ ?_
 rintro _ w2 ⟨sy,cs,cnt2,S,left,rfl,hSn,hSk,hleft,s3⟩ C hC;have hSl:S.length<=E.length:=by
  have:=Go.Px.Scan.nodup_le (m:=E.map (·.1)) hSn hSk;simpa using this
 have hk1:(L++[Zmi Tryz.prog kInt 3 vk it n (fE E) cnt2 left,Ch.all RS,rowC 3 1 sy S.length cs (ints S)])[L.length]?=some (Zmi Tryz.prog kInt 3 vk it n (fE E) cnt2 left):=by rw[Qi (Ql _),Qam];rfl
 unfold Zn.b23;rcases s3.rngNext mKer L.length hk1 0 mKeys with ⟨h0,h1,h2,s4⟩|⟨a,u,cnt',w3,ha,hfa,hgood,hcnt,hr1,hr2,s4⟩
 ·rw[Qac _ _ (Ql _),Qam]at s4;have s4:St G W w2 (L++[Zdt Tryz.prog kInt 3 vk n (fE E),Ch.all RS,rowC 3 1 sy S.length cs (ints S)]):=s4;simp -dsimp[go_sem,h2];unfold Zn.b13;have hk2:(L++[Zdt Tryz.prog kInt 3 vk n (fE E),Ch.all RS,rowC 3 1 sy S.length cs (ints S)])[L.length+2]?=some (rowC 3 1 sy S.length cs (ints S)):=by rw[Qi (by omega),show L.length+2-L.length=2 by omega];rfl
  refine Zi (Zyu s4 hk2 (by omega)) ?_;rintro _ w3 ⟨rfl,S',hp,hsr,s5⟩;rw[Qac _ _ (by omega),show L.length+2-L.length=2 by omega]at s5;have hlen:=hp.length_eq;rw[<-hlen];refine hgo w3 sy cs S' (hp.nodup_iff.2 hSn) (pw_lt hsr (hp.nodup_iff.2 hSn)) (λ a=>(hp.mem_iff).trans ⟨hSk a,λ h=>?_⟩) (by omega) s5;refine Qv λ hn=>?_;have:=(hleft a).2 ⟨h,hn⟩;rw[h1 a]at this;cases this
 ·have hr1:(Instr.next it false 0).run Tryz.prog w2 = .ok (.tuple #[.bool true,.int .i64 a,u]) w3:=hr1;have hr2:(Instr.entry it).run Tryz.prog w3 = .ok (.tuple #[.int .i64 a,u]) w3:=hr2;have haS:=(hleft a).1 ha;have s5:=s4 (λ c=>if c=a then false else left c) (by simp) (λ c hc=>by simp[hc]);rw[Qac _ _ (Ql _),Qam]at s5;have s5:St G W w3 (L++[Zmi Tryz.prog kInt 3 vk it n (fE E) cnt' (λ c=>if c=a then false else left c),Ch.all RS,rowC 3 1 sy S.length cs (ints S)]):=s5;have hk3:(L++[Zmi Tryz.prog kInt 3 vk it n (fE E) cnt' (λ c=>if c=a then false else left c),Ch.all RS,rowC 3 1 sy S.length cs (ints S)])[L.length+2]?=some (rowC 3 1 sy S.length cs (ints S)):=by rw[Qi (by omega),show L.length+2-L.length=2 by omega];rfl
  simp -dsimp[go_sem,hr1];unfold Zn.b23_1;simp -dsimp[go_sem,hr2];refine s5.append1 (L.length+2) hk3 Zgn iInt rfl (by decide) (news:=[.int .i64 a]) rfl (by simp[Value.oneCell']) (by unfold maxLen;omega) (by unfold Zaf;omega) ?_;intro gs cap w4 s6;rw[Qac _ _ (by omega),show L.length+2-L.length=2 by omega]at s6;refine hC _ _ ⟨some ⟨gs,0,none⟩,cap,cnt',S++[a],(λ c=>if c=a then false else left c),by simp,?_,λ b hb=>?_,λ b=>?_,?_⟩ ?_
  ·rw[Qak];refine ⟨hSn,by simp,λ x hx y hy=>?_⟩;rw[Qg]at hy;subst hy;rintro rfl;exact haS.2 hx
  ·rcases Qk.1 hb with hb|hb
   ·exact hSk b hb
   ·rw[Qg]at hb;subst hb;exact haS.1
  ·by_cases e:b=a
   ·subst e;simp
   ·simp[e,hleft]
  ·have e:ints (S++[a])=ints S++[.int .i64 a]:=by simp[ints]
   rw[e,Qq];exact s6
  ·show E.length+1-(S.length+1)<E.length+1-S.length
   omega
theorem Znf {w:World}{B:Nat}{v:Value}{g:Gr}(h:Zb7.atN w B v g)(hB:B<=w.heap.size):Ct Tryz.prog Zd6.id #[v] w λ r w'=>r = .bool (Zka g)/\Chg noB w w':=by
 refine Zd6.ct λ R hR=>?_;obtain ⟨A1,c1,A2,c2,A3,c3,A4,c4,rfl,h1,h2,h3,h4,h5,⟨l1,m1⟩,⟨l2,m2⟩,⟨l3,m3⟩,⟨l4,m4⟩⟩:=(Zcg h).ex;have no:∀w',Chg noB w w'->¬Zbn g->R (.returned (.bool false)) w':=λ w' hc hn=>hR _ _ ⟨by rw[Zeg Zc5 hn],hc⟩;unfold Zd6.run;simp -dsimp[go_sem];have h0:=(St.refl noB w).alloc (gQ A1 c1 A2 c2 A3 c3 A4 c4 g) 27;have hb1:=h0.chg.below hB λ _ _=>id;have hB1:B<=(w.alloc (.cells (gQ A1 c1 A2 c2 A3 c3 A4 c4 g) 27)).heap.size:=by have:=h0.chg.size;omega
 generalize w.heap.size=q at h0 |-;generalize w.alloc (.cells (gQ A1 c1 A2 c2 A3 c3 A4 c4 g) 27)=w1 at h0 hb1 hB1 |-;have k0:=h0.box 0 rfl;simp[Zw]at k0;refine Za (λ q1=>?_) (λ q1=>?_)<;>simp at q1
 ·simp -dsimp[go_sem];exact no _ h0.chg λ hv=>by have:=hv.first;rw[q1]at this;cases this
 have q1':0<g.nons.length:=Qa6.2 q1;obtain ⟨b2,o2,rfl,hb2,d1,d2⟩:=Go.Px.strs_at (Rep.below h2 hb1) q1';simp at d1;simp -dsimp[go_sem,k0,q1',d1];have hf:g.nons.head?=some g.nons[0]:=by rw[Qa7,Qb q1']
 refine Za (λ p1=>?_) (λ p1=>?_)<;>simp at p1
 ·simp -dsimp[go_sem];refine no _ h0.chg λ hv=>p1 ?_;have h9:=hv.first;rw[hf]at h9;injection h9 with h9;rw[h9,ByteArray.toList_eq]
 have hfirst:g.nons.head?=some ⟨#[]⟩:=by
  rw[hf];congr 1;exact Zoj (by rw[<-ByteArray.toList_eq];exact p1)
 simp -dsimp[go_sem,k0];refine Zi (Zlk (Zx h hb1) hB1 (a:=1) (by omega)) ?_;rintro _ w2 ⟨rfl,hc2⟩;have hst2:=h0.old hc2;have k2:=hst2.box 0 rfl;simp[Zw]at k2
 cases hs:symB g 1 with
 | false=>
  simp -dsimp[go_sem];refine no _ hst2.chg λ hv=>?_;rw[Zgg.2 hv.syms]at hs;cases hs
 | true=>
  have hsP:=Zgg.1 hs;simp -dsimp[go_sem,k2];have hb2:=hst2.chg.below (B:=B) (by omega) λ _ _=>id;have hB2:B<=w2.heap.size:=by have:=hc2.size;omega
  refine Zi (Zgw (Zx h hb2) hB2 (a:=1) (by omega) hsP) ?_;rintro _ w3 ⟨⟨vl,rfl,hl⟩,hc3⟩;have hst3:=hst2.old hc3;have k3:=hst3.box 0 rfl;simp[Zw]at k3
  cases hp:Zvr g 1 with
  | false=>
   simp -dsimp[go_sem,k3];refine no _ hst3.chg.drew λ hv=>?_;rw[Zew.2 hv.prods]at hp;cases hp
  | true=>
   have hpP:=Zew.1 hp;have hc0:0<g.prods.length:=by have:=hpP.c0;omega
   have hstd:=hst3.old ((Chg.refl noB w3).drew);have kd:=hstd.box 0 rfl;simp[Zw]at kd;have hB3:B<=w3.drew.heap.size:=by have:=hc3.size;simp;omega
   obtain ⟨b5,o5,vr,rfl,hb5,f1,f2,f3,fr,i1,i2⟩:=Zcc (Rep.below h5 (hstd.chg.below hB λ _ _=>id)) hc0;obtain ⟨Ar,cr,rfl,lr,mr,_⟩:=Zz fr;simp at f1 f2 f3;have hph:g.prods.head?=some g.prods[0]:=by rw[Qa7,Qb hc0]
   have fin:∀b:Bool,(b=true↔g.prods[0]=((g.terms.length:Int),[g.start],0))->R (.returned (.bool b)) w3.drew:=λ b hb=>by
    refine hR _ _ ⟨?_,hstd.chg⟩;congr 1;refine Zig ?_;rw[Zc5,hb];constructor
    ·intro e;exact ⟨hfirst,hsP,hpP,by rw[hph,e]⟩
    ·intro hv;have:=hv.added;rw[hph]at this;injection this
   simp -dsimp[go_sem,k3,kd,hc0,f1,f2,f3];refine Za (λ q2=>?_) (λ q2=>?_)<;>simp at q2
   ·simp -dsimp[go_sem,k3,kd,hc0,f1,f2,f3];refine Za (λ q3=>?_) (λ q3=>?_)<;>simp at q3
    ·have q3':0<g.prods[0].2.1.length:=by omega
     obtain ⟨b6,o6,rfl,hb6,e1,e2⟩:=Go.Px.ints_at fr q3';simp at e1;simp -dsimp[go_sem,k3,kd,hc0,f1,f2,f3,q3',e1];have hl1:g.prods[0].2.1=[g.prods[0].2.1[0]]:=by
      apply Qaw;intro i
      cases i with
      | zero=>simp[Qb q3']
      | succ i=>simp;omega
     refine Za (λ q4=>?_) (λ q4=>?_)<;>simp at q4
     ·simp -dsimp[go_sem,k3,kd,hc0,f1,f2,f3,q3'];refine fin _ ?_;rw[beq_iff_eq];constructor
      ·intro e;refine Prod.ext q2 (Prod.ext ?_ e)
       show g.prods[0].2.1=[g.start]
       rw[hl1,q4]
      ·intro e;rw[e]
     ·refine fin false ⟨λ h=>(by cases h),λ e=>?_⟩;refine absurd ?_ q4;have e2:g.prods[0].2.1=[g.start]:=by rw[e]
      simp only[e2,Qcp]
    ·refine fin false ⟨λ h=>(by cases h),λ e=>?_⟩;rw[e]at q3;simp at q3
   ·refine fin false ⟨λ h=>(by cases h),λ e=>?_⟩;rw[e]at q2;exact absurd rfl q2
end Go.Proofs.YtjibcckpehdbhaaGreatDoor
