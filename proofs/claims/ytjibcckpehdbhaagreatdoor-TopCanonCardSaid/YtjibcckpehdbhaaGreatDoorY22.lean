/-
  Texts of this claim: Dg4, Dg5, Dg6, Dg7, Dg8, Dg9, DgA, DgB, DgC, Lk1, Lk2, Lk3, Lk4, Lk5.
-/
import Derived.Test.YtjibcckpehdbhaaGreatDoorY21
import Derived.Test.YtjibcckpehdbhaaGreatDoorY04
import Derived.Test.YtjibcckpehdbhaaGreatDoorY16
import Derived.LaidEql
import Derived.Test.YtjibcckpehdbhaaGreatDoorY18
import Derived.Test.YtjibcckpehdbhaaGreatDoorY10
set_option maxHeartbeats 1000000
set_option linter.unusedSimpArgs false
set_option linter.unusedVariables false
set_option maxRecDepth 100000
namespace Go.Proofs.YtjibcckpehdbhaaGreatDoor
open Go.Px Go.Px.Scan Go.Px.Cn Go.RowKit
attribute [-go_sem] Builtin.append_ Zd.b6 Zd.b22 Zd.b23 Zd.b20_1 Zd.b20 Zd.b27 Zd.b19 Zd.b18 Zd.b17_1 Zd.b17 Zd.b30_1 Zd.b30_2 Zd.b30_3 Zd.b15 Zd.b13 Zd.b10_1 Zd.b10 Zd.b8
theorem Zlu {G:Nat->Prop}{W w:World}{L:List Ch}(st:St G W w L)(k:Nat){wa:Option Addr}{n c:Nat}{work:List (Nat×Nat)}(hk:L[k]?=some (rowC 403 2 wa n c (work.flatMap wkV))){j:Nat}{x:Nat×Nat}(hx:work[j]?=some x):∃wb,wa=some ⟨wb,0,none⟩/\w.cell? ⟨wb,j*2,none⟩=some (.int .i64 x.1)/\wb<w.heap.size:=by
 obtain ⟨F,ho,_⟩:=st.get hk;obtain ⟨gA,eA,hc,_,_,hlt⟩:=Zck ho (λ _ _=>rfl) (by decide) hx;exact ⟨gA,eA,by simpa using hc 0 _ rfl,hlt⟩
section
variable {W:World} {E:List (List Nat)} {ov lv wv lb am:Nat} {α:Type} {solL:α->List Ch} {I:α->(Nat->Prop)->Prop} {yfid:FuncId} {first cap:Array Value}
theorem Zu6 {w:World}{oa:Option Addr}{oc wb wc:Nat}{s:Dg.TS}{pos:List Nat}{f:Int->Int}{cnt n k:Nat}{l:List Nat}{w0:List (Nat×Nat)}{σ:α}{D P:Nat->Prop}{R:EP}{C3:VP}{C12:World->Prop}(hy:Zto W E solL I yfid first cap)(hE:E.length<=40000)
  (st:St noB W w (wkL ov lv wv lb E.length am oa oc (some ⟨wb,0,none⟩) wc s f cnt [Ch.all (solL σ)])) (hS:Dg.DgS E s pos f cnt D P) (hI:I σ D) (hw:s.work=w0++[(n,k)]) (hl:E[n]?=some l) (hk:l.length<=k)
  (hpop:∀w' s' pos' σ' D',Dg.DgS E s' pos' f cnt D' P->I σ' D'->Dg.zc s'.low=Dg.zc s.low->s'.work=w0->St noB W w' (wkL ov lv wv lb E.length am oa oc (some ⟨wb,0,none⟩) wc s' f cnt [Ch.all (solL σ')])->C12 w') :
  Zd.b17 R C3 C12 (.func (.func yfid) first cap) (.pointer (some ⟨lv,0,none⟩)) (.int .i64 ((E.length:Int)+1)) (.pointer (some ⟨ov,0,none⟩)) (.pointer (some ⟨wv,0,none⟩)) (.map (some am)) (.pointer (some ⟨wb,w0.length*2,none⟩)) w:=by
 obtain ⟨p,p0,hpos,hp0,hpn,hplt⟩:=hS.ti.top hw;obtain ⟨dn,hdn,hn1,hn2⟩:=hS.ti.on p n hpn;have hfn:=hS.at_ p n hpn;have hnE:=(Qa.1 hl).1;have hol:=hS.ti.opn_len;have hon:∀v∈s.opn,v<E.length:=λ v hv=>by
  obtain ⟨i,hi⟩:=Qo.1 hv;exact hS.ti.opn_lt hi
 have hwl:s.work.length=w0.length+1:=by rw[hw];simp
 have hwrl:=hS.ti.work_len;have hz:∀v∈s.opn.drop p,∃x,s.low[v]?=some x/\x≠0:=λ v hv=>by
  obtain ⟨i,hi⟩:=Qo.1 (Qb2 hv);obtain ⟨d,h1,h2,_⟩:=hS.ti.on i v hi;exact ⟨d,h1,by omega⟩
 have hxn:s.work[w0.length]?=some (n,k):=by rw[hw];simp
 obtain ⟨wb',e,q1,hwbl⟩:=Zlu st 5 rfl hxn;injection e with e;injection e with e;subst e;have y4:=(st.box 4 rfl).1;have f4:=(st.box 4 rfl).2.1;simp[Zw]at y4;obtain ⟨_,hwc,_⟩:=st.rowSize 5 rfl;have hwc:s.work.length<=wc:=hwc;have wl:IntKind.i64.wrap ((s.work.length:Int)-1)=(w0.length:Int):=by rw[IntWalk.i64_in _ (by omega)];omega
 have wl2:IntKind.i64.wrap (((w0.length+1:Nat):Int)-1)=(w0.length:Int):=by rw[IntWalk.i64_in _ (by omega)];omega
 have hw0c:(w0.length:Int)<=(wc:Int):=by omega
 have st1:=st.set 4 rfl 0 (.slice (some ⟨wb,0,none⟩) w0.length wc);unfold Zd.b17;simp -dsimp[go_sem,q1,y4,f4,wl,hw0c];have st1:St noB W (w.setCell ⟨wv,0,none⟩ (.slice (some ⟨wb,0,none⟩) w0.length wc)) _:=st1.popRow 5 (e:=403) (size:=2) (a:=some ⟨wb,0,none⟩) (c:=wc) (n:=w0.length) (xs:=w0.flatMap wkV) (last:=wkV (n,k)) (by
  have:s.work.flatMap wkV=w0.flatMap wkV++wkV (n,k):=by rw[hw];simp
  rw[<-this,<-hwl];rfl) (Zdv w0 λ _ _=>rfl)
 have st1:St noB W (w.setCell ⟨wv,0,none⟩ (.slice (some ⟨wb,0,none⟩) w0.length wc)) (wkL ov lv wv lb E.length am oa oc (some ⟨wb,0,none⟩) wc ⟨s.low,s.opn,w0⟩ f cnt [Ch.all (solL σ)]):=st1;generalize w.setCell ⟨wv,0,none⟩ (.slice (some ⟨wb,0,none⟩) w0.length wc)=w1 at st1 |-;clear q1 y4 f4 hwbl st;have fin18:∀w' low',St noB W w' (wkL ov lv wv lb E.length am oa oc (some ⟨wb,0,none⟩) wc ⟨low',s.opn,w0⟩ f cnt [Ch.all (solL σ)])->low'[n]?=some dn->low'.length=E.length->(∀v:Nat,low'[v]?=some (E.length+1)↔D v)->(dn=p+1->low'=s.low)->(dn≠p+1->∃pos',Dg.DgS E ⟨low',s.opn,w0⟩ pos' f cnt D P/\Dg.zc low'=Dg.zc s.low)->Zd.b18 R C3 C12 (.func (.func yfid) first cap) (.pointer (some ⟨lv,0,none⟩)) (.int .i64 ((E.length:Int)+1)) (.pointer (some ⟨ov,0,none⟩)) (.map (some am)) (.int .i64 n) w':=by
  intro w' low' st' hdn' hlen' hD' heq' hne';refine ZZ171 hy hE st' hlen' hnE hol hon hfn hpn hdn' hI hD' (λ hne w2 st2=>?_) (λ hdp=>?_) λ hdp w2 σ' hI' st2=>?_
  ·obtain ⟨pos',h1,h2⟩:=hne' hne;exact hpop w2 _ pos' σ D h1 hI h2 rfl st2
  ·have:=(hS.ti.close hw hl hk hpn (by rw[hdn,hdp])).2;rw[heq' hdp];exact this
  ·have hcl:=(hS.ti.close hw hl hk hpn (by rw[hdn,hdp])).1;have hgr:=(hS.ti.close hw hl hk hpn (by rw[hdn,hdp])).2;rw[heq' hdp]at st2;have hz2:=Dg.zc_setAll (d:=E.length+1) (by omega) hz;refine hpop w2 _ _ σ' _ ⟨hcl,λ i v hv=>?_,?_,λ v=>?_,λ v hv=>Dg.nz_setAll (by omega) (hS.nz v hv)⟩ hI' hz2 rfl st2
   ·have hv':(s.opn.take p)[i]?=some v:=hv;by_cases hi:i<p
    ·rw[Qbz hi]at hv';exact hS.at_ i v hv'
    ·have:=(Qa.1 hv').1;rw[Q6]at this;omega
   ·have:=hS.cz
    show cnt+Dg.zc (Dg.setAll s.low (s.opn.drop p) (E.length+1))<=E.length
    omega
   ·show (Dg.setAll s.low (s.opn.drop p) (E.length+1))[v]?=_↔_
    by_cases hv:v∈s.opn.drop p
    ·rw[Dg.setAll_in hv (by rw[hS.ti.len];exact hgr.lt v hv)];exact ⟨λ _=>Or.inr hv,λ _=>rfl⟩
    ·rw[Dg.setAll_out hv,hS.dn];exact ⟨Or.inl,λ h=>h.elim id λ h=>absurd h hv⟩
 have y4:=(st1.box 4 rfl).1;simp[Zw]at y4;have wl0:IntKind.i64.wrap ((w0.length:Int)-1)=((w0.length:Int)-1):=IntWalk.i64_in _ (by omega);refine Za (λ p1=>?_) (λ p1=>?_)<;>simp at p1
 ·obtain ⟨w1',m,km,hw0⟩:∃w1' m km,w0=w1'++[(m,km)]:=by
   have hne:w0≠[]:=λ e=>by rw[e]at p1;simp at p1
   obtain ⟨x,hx⟩:∃x,w0.getLast hne=x:=⟨_,rfl⟩;exact ⟨w0.dropLast,x.1,x.2,by have:=Qba hne;rw[hx]at this;exact this.symm⟩
  have hw0l:w0.length=w1'.length+1:=by rw[hw0];simp
  have hxm:w0[w1'.length]?=some (m,km):=by rw[hw0];simp
  obtain ⟨wb',e,q1,hwbl⟩:=Zlu st1 5 rfl hxm;injection e with e;injection e with e;subst e;have hxm2:s.work[w1'.length]?=some (m,km):=by rw[hw,Qf (by omega)];exact hxm
  obtain ⟨pm,hpm⟩:∃pm,p0[w1'.length]?=some pm:=⟨_,Qb (by omega)⟩;have hpm':pos[w1'.length]?=some pm:=by rw[hpos,Qf (by omega)];exact hpm
  have hmo:=hS.ti.wrk _ _ _ _ hxm2 hpm';obtain ⟨dm,hdm,hm1,hm2⟩:=hS.ti.on pm m hmo;have hmp:=hplt pm (Qe hpm);have hmn:m≠n:=λ e=>by
   subst e;have:=Dg.at_nd hS.ti.nd hmo hpn;omega
  have hmE:=hon m (Qe hmo);have y2:=(st1.box 2 rfl).1;simp[Zw]at y2;obtain ⟨l1,l2,l3⟩:=Zmz st1 3 rfl hdn;obtain ⟨m1,m2,m3⟩:=Zmz st1 3 rfl hdm;have y2l:=(st1.box 2 rfl).2.2;have wl3:IntKind.i64.wrap ((w0.length:Int)-1)=(w1'.length:Int):=by rw[IntWalk.i64_in _ (by omega)];omega
  have wl4:IntKind.i64.wrap (((w1'.length+1:Nat):Int)-1)=(w1'.length:Int):=by rw[IntWalk.i64_in _ (by omega)];omega
  have hlt':w1'.length<w0.length:=by omega
  have st2:=(st1.setRow 3 rfl m (.int .i64 (min (dm:Int) (dn:Int)))).old ((Chg.refl noB _).drew);unfold Zd.b17_1;simp -dsimp[go_sem,y4,wl3,hlt',q1,y2,y2l,l1,l2,l3,m1,m2,hmE,hnE];have emin:(min (dm:Int) (dn:Int))=((min dm dn:Nat):Int):=by omega
  have hml:=(Qa.1 hdm).1;have hpl:=(Qa.1 hpn).1;have st3:St noB W (w1.setCell ⟨lb,m,none⟩ (.int .i64 (min (dm:Int) (dn:Int)))).drew (wkL ov lv wv lb E.length am oa oc (some ⟨wb,0,none⟩) wc ⟨s.low.set m (min dm dn),s.opn,w0⟩ f cnt [Ch.all (solL σ)]):=by
   rw[emin]at st2 |-;unfold wkL eL;rw[Zjt];exact st2
  have hcm:∀v:Nat,(s.low.set m (min dm dn))[v]?=some (E.length+1)↔D v:=λ v=>by
   by_cases e:m=v
   ·subst e;rw[Qn hml];have h1:¬D m:=λ h=>by
     have:=(hS.dn m).2 h;rw[hdm]at this;injection this with this;omega
    exact ⟨λ h=>by injection h with h;omega,λ h=>absurd h h1⟩
   ·rw[Qs e];exact hS.dn v
  refine fin18 _ (s.low.set m (min dm dn)) st3 (by rw[Qs hmn];exact hdn) (by rw[Qau];exact hS.ti.len) hcm (λ hdp=>?_) λ hne=>?_
  ·have:min dm dn=dm:=by omega
   rw[this];have h9:=Qai hml;rw[(Qa.1 hdm).2]at h9;exact h9
  ·have hlv:=hS.ti.leave (w0:=w0) (w1:=w1') (m:=m) (km:=km) (by rw[hw,hw0]) hl hk hdn hdm λ p' hp'=>by
    have:=Dg.at_nd hS.ti.nd hp' hpn;subst this;exact hne
   refine ⟨_,⟨by rw[hw0];exact hlv,hS.at_,?_,hcm,λ v hv=>Dg.nz_set (hS.nz v hv) (by omega)⟩,Dg.zc_keep hdm (by omega) (by omega)⟩;have:=hS.cz;have hz3:=Dg.zc_keep hdm (d':=min dm dn) (by omega) (by omega)
   show cnt+Dg.zc (s.low.set m (min dm dn))<=E.length
   omega
 ·have hw0:w0=[]:=by simpa using p1
  subst hw0;obtain ⟨h1,h2⟩:=hS.ti.root_low (by simpa using hw) hdn;have hp0':=Dg.at_nd hS.ti.nd h1 hpn;exact fin18 w1 s.low st1 hdn hS.ti.len hS.dn (λ _=>rfl) λ hne=>absurd (by omega) hne
end
theorem ZZ165 (w:World)(n:Nat)(h:n<=1000000):(Instr.makeSlice 24 (.int .i64 n) (.int .i64 n)).run Tryz.prog w = .ok (.slice (some ⟨w.heap.size,0,none⟩) n n) (w.alloc (.cells (Array.replicate n (Value.int .i64 0)) 3)):=by
 obtain ⟨i0,hi,hz0,hz1,hz2⟩:=info_parts iInt;have:=run_make (P:=Tryz.prog) w 24 3 i0 _ Tryz.underlying24 hi hz0 .i64 .i64 n n (by omega) (by omega) (by rw[hz2];omega) (by omega);rw[this];have e:madeCells (Value.int .i64 0).cells ((n:Int).toNat*i0.size)=Array.replicate n (Value.int .i64 0):=by
  rw[hz1,Qb7,Qax];have:=toList_madeCells_one (Value.int .i64 0) n;apply Qcx.1;rw[Qa8];exact this
 rw[e];simp
theorem mkAt (w:World):(Instr.makeMap 269 none).run Tryz.prog w = .ok (.map (some w.heap.size)) (w.alloc (.map #[] 0)):=by
 simp[Instr.makeMap,run_underlying Tryz.underlying269,go_sem]
section
variable {W:World} {E:List (List Nat)} {ov lv wv lb am:Nat} {α:Type} {solL:α->List Ch} {I:α->(Nat->Prop)->Prop} {yfid:FuncId} {first cap:Array Value} {x0:Value}
theorem Zty {w:World}{oa:Option Addr}{oc wc:Nat}{wa:Option Addr}{s:Dg.TS}{pos:List Nat}{f:Int->Int}{cnt:Nat}{σ:α}{D P:Nat->Prop}{R:EP}{C3:VP}{root:Value}(hy:Zto W E solL I yfid first cap)(hrows:∀w',Chg noB W w'->Zeo w' x0 (toI E))(hE:E.length<=40000)(hlen:∀l∈E,l.length<=100000)
  (st:St noB W w (wkL ov lv wv lb E.length am oa oc wa wc s f cnt [Ch.all (solL σ)])) (hS:Dg.DgS E s pos f cnt D P) (hI:I σ D)
  (hgo:∀w' oa' oc' wa' wc' low' f' cnt' σ' D',Dg.DgS E ⟨low',[],[]⟩ [] f' cnt' D' P->I σ' D'->St noB W w' (wkL ov lv wv lb E.length am oa' oc' wa' wc' ⟨low',[],[]⟩ f' cnt' [Ch.all (solL σ')])->Zd.b6 R C3 root w') :
  Zd.l12 R C3 x0 (.func (.func yfid) first cap) (.pointer (some ⟨lv,0,none⟩)) (.int .i64 ((E.length:Int)+1)) (.pointer (some ⟨ov,0,none⟩)) (.pointer (some ⟨wv,0,none⟩)) (entV ov lv wv) (.map (some am)) root w:=by
 obtain ⟨K,hK⟩:∃K:World->Nat->Prop,K=λ w' m=>∃oa oc wa wc s pos f cnt σ D,Dg.DgS E s pos f cnt D P/\I σ D/\m=2*Dg.zc s.low+s.work.length/\St noB W w' (wkL ov lv wv lb E.length am oa oc wa wc s f cnt [Ch.all (solL σ)]):=⟨_,rfl⟩;refine Zd.l12_intro _ _ _ _ _ _ _ _ _ _ _ _ (λ w'=>∃m,K w' m) (λ w'=>muOf K w') ⟨_,by rw[hK];exact ⟨oa,oc,wa,wc,s,pos,f,cnt,σ,D,hS,hI,rfl,st⟩⟩ ?_;intro w1 hJ C hC;have hJm:=Zfy hJ;obtain ⟨m1,hm1⟩:∃m,muOf K w1=m:=⟨_,rfl⟩;rw[hm1]at hJm hC;have hCK:∀w4 m,K w4 m->m<m1->C w4:=λ w4 m h1 h2=>hC w4 ⟨m,h1⟩ (Qbd (Zfw h1) h2);subst hK;obtain ⟨oa1,oc1,wa1,wc1,s1,pos1,f1,cnt1,σ1,D1,hS1,hI1,hm2,st1⟩:=hJm;have y4:=(st1.box 4 rfl).1;simp[Zw]at y4;unfold Zd.b13;simp -dsimp[go_sem,y4];refine Za (λ p1=>?_) (λ p1=>?_)<;>simp at p1
 ·obtain ⟨w0,n,k,hw⟩:∃w0 n k,s1.work=w0++[(n,k)]:=by
   have hne:s1.work≠[]:=λ e=>by rw[e]at p1;simp at p1
   obtain ⟨x,hx⟩:∃x,s1.work.getLast hne=x:=⟨_,rfl⟩;exact ⟨s1.work.dropLast,x.1,x.2,by have:=Qba hne;rw[hx]at this;exact this.symm⟩
  have hwl:s1.work.length=w0.length+1:=by rw[hw];simp
  have hwrl:=hS1.ti.work_len;have wl:IntKind.i64.wrap ((s1.work.length:Int)-1)=(w0.length:Int):=by rw[IntWalk.i64_in _ (by omega)];omega
  have hlt:w0.length<s1.work.length:=by omega
  obtain ⟨p,p0,hpos,hp0,hpn,hplt⟩:=hS1.ti.top hw;have hnE:=hS1.ti.opn_lt hpn;have hl:E[n]?=some E[n]:=Qb hnE;obtain ⟨wb,ewb,q1,_⟩:=Zlu st1 5 rfl (j:=w0.length) (x:=(n,k)) (by rw[hw];simp);subst ewb;unfold Zd.b15;simp -dsimp[go_sem,y4,wl,hlt];refine Zum hrows hE st1 hS1 hw hl (hlen _ (Qj hnE)) (λ w' oa' oc' wa' wc' s' pos' f' cnt' h1 h2 h3 h4=>?_) λ w' s' pos' k' h1 h2 h3 h4 h5=>?_
  ·exact hCK w' _ ⟨oa',oc',wa',wc',s',pos',f',cnt',σ1,D1,h1,hI1,rfl,h4⟩ (by rw[hm2];exact h3)
  ·refine Zu6 hy hE h5 h1 hI1 h2 hl h3 λ w2 s2 pos2 σ2 D2 g1 g2 g3 g4 g5=>?_;refine hCK w2 _ ⟨_,_,_,_,s2,pos2,_,_,σ2,D2,g1,g2,rfl,g5⟩ ?_;rw[hm2,g4,g3,h4,hwl];omega
 ·have hw:s1.work=[]:=by simpa using p1
  obtain ⟨low1,opn1,work1⟩:=s1;simp only at hw;subst hw;have hpos:pos1=[]:=Qal (by have:=hS1.ti.plen;simpa using this);subst hpos;have hopn:opn1=[]:=Qv λ hne=>by
   have:=hS1.ti.root hne;simp at this
  subst hopn;exact hgo w1 _ _ _ _ low1 _ _ σ1 D1 hS1 hI1 st1
theorem ZZ19 {w:World}{σ:α}(hy:Zto W E solL I yfid first cap)(hrows:∀w',Chg noB W w'->Zeo w' x0 (toI E))(hE:E.length<=40000)(hlen:∀l∈E,l.length<=100000)(hedge:∀(v:Nat) l,E[v]?=some l->∀t∈l,t<E.length)
  (st:St noB W w [Ch.all (solL σ)]) (hI:I σ (λ _=>False)) :
  Ct Tryz.prog Zd.id #[x0,.func (.func yfid) first cap] w λ _ w'=>∃σ' D,I σ' D/\(∀v,v<E.length->D v)/\St noB W w' [Ch.all (solL σ')]:=by
 refine Zd.ct λ R hR=>?_;obtain ⟨A,c,hx0,_⟩:=hrows w st.chg;have hEl:(toI E).length=E.length:=by unfold toI;simp
 rw[hEl]at hx0;have wE:IntKind.i64.wrap ((E.length:Int)+1)=(E.length:Int)+1:=IntWalk.i64_in _ (by omega);have s1:=((((st.lit 3 1 E.length (Array.replicate E.length (Value.int .i64 0)) (by unfold maxLen;omega) (by simp)).alloc #[.slice (some ⟨w.heap.size,0,none⟩) E.length E.length] 24).alloc #[.slice none 0 0] 24).alloc #[.slice none 0 0] 401);have e1:(w.alloc (.cells (Array.replicate E.length (Value.int .i64 0)) 3)).heap.size=w.heap.size+1:=by simp
 have e2:((w.alloc (.cells (Array.replicate E.length (Value.int .i64 0)) 3)).alloc (.cells #[.slice (some ⟨w.heap.size,0,none⟩) E.length E.length] 24)).heap.size=w.heap.size+1+1:=by simp
 have e3:(((w.alloc (.cells (Array.replicate E.length (Value.int .i64 0)) 3)).alloc (.cells #[.slice (some ⟨w.heap.size,0,none⟩) E.length E.length] 24)).alloc (.cells #[.slice none 0 0] 24)).heap.size=w.heap.size+1+1+1:=by simp
 rw[e1,e2,e3]at s1;unfold Zd.run;rw[hx0];simp -dsimp[go_sem,ZZ165 w E.length (by omega),wE];generalize (((w.alloc (.cells (Array.replicate E.length (Value.int .i64 0)) 3)).alloc (.cells #[.slice (some ⟨w.heap.size,0,none⟩) E.length E.length] 24)).alloc (.cells #[.slice none 0 0] 24)).alloc (.cells #[.slice none 0 0] 401)=w1 at s1 |-;generalize w.heap.size+1+1+1=wv at s1 |-;generalize w.heap.size+1+1=ov at s1 |-;generalize w.heap.size+1=lv at s1 |-;generalize w.heap.size=lb at s1 |-;have hrep:(Array.replicate E.length (Value.int .i64 0)).toList=nats (List.replicate E.length 0):=by
  rw[Qa8];unfold nats;rw[Qcq];rfl
 have s2:St noB W w1 (eL ov lv wv lb E.length none 0 none 0 ⟨List.replicate E.length 0,[],[]⟩++[Ch.all (solL σ)]):=by
  have:=((s1.nilRow 3 1).nilRow 403 2);rw[hrep]at this;exact this.pick [3,5,2,1,4,6,0] (by decide) rfl
 rw[<-hx0];refine Zd.l3_intro _ _ _ _ _ _ _ _ _ _ (λ y w'=>∃(r:Nat) (oa:Option Addr) (oc:Nat) (wa:Option Addr) (wc:Nat) (low:List Nat) (σ:α) (D:Nat->Prop),y = .int .i64 r/\r<=E.length/\Dg.DgS E ⟨low,[],[]⟩ [] (λ _=>0) 0 D (λ v=>v<r)/\I σ D/\St noB W w' (eL ov lv wv lb E.length oa oc wa wc ⟨low,[],[]⟩++[Ch.all (solL σ)])) (λ y _=>E.length-iv y)
  ⟨0,none,0,none,0,_,σ,_,rfl,Qy _,⟨⟨by simp,hedge,λ i v h=>by simp at h,by simp,λ v d hd _=>?_,λ v l hv=>?_,rfl,λ j n k p h=>by simp at h,by simp,λ h=>absurd rfl h,λ i v l k t h=>by simp at h,λ i v d h=>by simp at h,λ i v d h=>by simp at h,λ j p i w v a b h=>by simp at h,λ j p i w v h=>by simp at h⟩,λ i v h=>by simp at h,?_,λ v=>?_,λ v h=>absurd h (Qcs _)⟩,hI,s2⟩ ?_
 ·exact Or.inl (Qa0 (Qe hd))
 ·have:=Qa0 (Qe hv);omega
 ·have:=Dg.zc_le (List.replicate E.length 0);rw[Qce]at this
  show 0+Dg.zc (List.replicate E.length 0)<=_
  omega
 ·refine ⟨λ h=>?_,λ h=>h.elim⟩;have:=Qa0 (Qe h);omega
 rintro _ w2 ⟨r,oa,oc,wa,wc,low,σ2,D,rfl,hr,hS,hI2,s3⟩ C hC;simp -dsimp[go_sem];refine Za (λ p1=>?_) (λ p1=>?_)<;>simp at p1
 ·have wr:=wS r (by omega);have hll:low.length=E.length:=hS.ti.len;obtain ⟨dr,hdr⟩:∃d,low[r]?=some d:=⟨_,Qb (by omega)⟩;have y2:=(s3.box 2 rfl).1;simp[Zw]at y2;obtain ⟨l1,l2,l3⟩:=Zmz s3 3 rfl hdr;have next:∀w' oa' oc' wa' wc' low' σ' D',Dg.DgS E ⟨low',[],[]⟩ [] (λ _=>0) 0 D' (λ v=>v<r+1)->I σ' D'->St noB W w' (eL ov lv wv lb E.length oa' oc' wa' wc' ⟨low',[],[]⟩++[Ch.all (solL σ')])->Zd.b6 R C (.int .i64 r) w':=λ w' oa' oc' wa' wc' low' σ' D' h1 h2 h3=>by
   unfold Zd.b6;simp -dsimp[go_sem,wr];exact hC _ _ ⟨r+1,oa',oc',wa',wc',low',σ',D',by simp,by omega,h1,h2,h3⟩ (by simp[iv];omega)
  unfold Zd.b8 Zd.b10;simp -dsimp[go_sem,y2,p1,l1];refine Za (λ p2=>?_) (λ p2=>?_)<;>simp at p2
  ·refine next w2 oa oc wa wc low σ2 D ⟨hS.ti,hS.at_,hS.cz,hS.dn,λ v hv=>?_⟩ hI2 s3;by_cases e:v=r
   ·subst e
    show low[v]?≠_
    rw[hdr];intro h;injection h with h;omega
   ·exact hS.nz v (by omega)
  ·have h0:dr=0:=by omega
   subst h0;have s4:=s3.map Tryz.prog kInt 3 3;have y0:=(s4.box 0 rfl).1;simp[Zw]at y0;unfold Zd.b10_1;simp -dsimp[go_sem,mkAt];generalize w2.alloc (.map #[] 0)=w3 at s4 y0 |-;generalize w2.heap.size=am at s4 |-;obtain ⟨w4,hrun,s5⟩:=s4.mapPut mInt 7 (b:=am) (n:=0) (f:=λ _=>0) rfl (r:Int) (by show Zdf _;exact ⟨by omega,by omega⟩) (by unfold maxLen;omega) (x:=1) ⟨by omega,by omega⟩ (by omega) 1 (λ c=>if c=(r:Int) then 1 else 0) (λ _=>rfl) (λ h=>absurd rfl h) (if_pos rfl) (λ c hc=>if_neg hc);have hrun:(Instr.mapUpdate 269 (.map (some am)) (.int .i64 (r:Int)) (.int .i64 1)).run Tryz.prog w3 = .ok () w4:=hrun;simp -dsimp[go_sem,y0,hrun];have s6:St noB W w4 (eL ov lv wv lb E.length oa oc wa wc ⟨low,[],[]⟩++(mapC Tryz.prog kInt 3 3 (.map (some am)) 1 (λ c=>if c=(r:Int) then 1 else 0)::[Ch.all (solL σ2)])):=s5.pick [0,1,2,3,4,5,7,6] (by decide) rfl;refine Zdx (Zqd s6 p1 hll (by omega) (by simp) (by simp)) ?_;rintro _ w5 ⟨oa',oc',wa',wc',s7⟩;have hTI:=hS.ti.enter (w0:=[]) (w1:=[]) (t:=r) hdr (Or.inl ⟨rfl,rfl,rfl⟩);have hz:=Dg.zc_set hdr (d:=0+1) (by omega);have hcz:=hS.cz;refine Zty (s:=⟨low.set r (([]:List Nat).length+1),[]++[r],[]++[(r,0)]⟩) (P:=λ v=>v<r+1) hy hrows hE hlen s7 ⟨hTI,λ i v hv=>?_,?_,λ v=>?_,λ v hv=>?_⟩ hI2 λ w6 oa6 oc6 wa6 wc6 low6 f6 cnt6 σ6 D6 g1 g2 g3=>?_
   ·have hi:i=0/\v=r:=by
     have hv':[r][i]?=some v:=hv;have:=(Qa.1 hv').1;simp at this;subst this;simp at hv';exact ⟨rfl,hv'.symm⟩
    obtain ⟨rfl,rfl⟩:=hi;simp
   ·show 1+Dg.zc (low.set r (0+1))<=E.length
    have:Dg.zc low<=E.length:=by have:0+Dg.zc low<=E.length:=hcz;omega
    omega
   ·show (low.set r 1)[v]?=_↔_
    by_cases e:r=v
    ·subst e;rw[Qn (by omega)];have h1:¬D r:=λ h=>by
      have h2:low[r]?=_:=(hS.dn r).2 h;rw[hdr]at h2;injection h2 with h2;omega
     exact ⟨λ h=>by injection h with h;omega,λ h=>absurd h h1⟩
    ·rw[Qs e];exact hS.dn v
   ·show (low.set r 1)[v]?≠_
    by_cases e:r=v
    ·subst e;rw[Qn (by omega)];intro h;injection h with h;omega
    ·rw[Qs e];exact hS.nz v (by omega)
   ·refine next w6 oa6 oc6 wa6 wc6 low6 σ6 D6 ⟨g1.ti,λ i v h=>by simp at h,?_,g1.dn,g1.nz⟩ g2 (g3.pick [0,1,2,3,4,5,7] (by decide) rfl);have:=g1.cz
    show 0+Dg.zc low6<=E.length
    have:cnt6+Dg.zc low6<=E.length:=this;omega
 ·have:r=E.length:=by omega
  subst this;refine hR _ _ ⟨σ2,D,hI2,λ v hv=>?_,s3.pick [6] (by decide) rfl⟩;have hlv:v<low.length:=by rw[show low.length=E.length from hS.ti.len];exact hv
  obtain ⟨d,hd⟩:∃d,low[v]?=some d:=⟨_,Qb hlv⟩;have hnz:=hS.nz v hv;rcases hS.ti.off v d hd (by simp) with h|h
  ·exact absurd (by rw[hd,h]) hnz
  ·exact (hS.dn v).1 (by rw[<-h];exact hd)
end
end Go.Proofs.YtjibcckpehdbhaaGreatDoor
namespace Go.Px.Dg
def sA {β:Type}(l:List β)(g:List Nat)(x:β):List β:=g.foldl (λ a v=>a.set v x) l
section
variable {β:Type} {x:β}
theorem sA_len (g:List Nat):∀(l:List β),(sA l g x).length=l.length:=by
 induction g with
 | nil=>intro l;rfl
 | cons v g ih=>intro l;show (sA (l.set v x) g x).length=_;rw[ih];simp
theorem sA_out {g:List Nat}:∀{l:List β} {v:Nat},v∉g->(sA l g x)[v]?=l[v]?:=by
 induction g with
 | nil=>intro l v _;rfl
 | cons u g ih=>
  intro l v hv
  show (sA (l.set u x) g x)[v]?=_
  rw[ih (λ h=>hv (by simp[h])),Qs (λ e=>hv (by simp[e]))]
theorem sA_in {g:List Nat}:∀{l:List β} {v:Nat},v∈g->v<l.length->(sA l g x)[v]?=some x:=by
 induction g with
 | nil=>intro l v h;cases h
 | cons u g ih=>
  intro l v hv hl
  show (sA (l.set u x) g x)[v]?=_
  by_cases h:v∈g
  ·exact ih h (by simpa using hl)
  ·rw[sA_out h];rcases Qaa.1 hv with rfl|h'
   ·exact Qn hl
   ·exact absurd h' h
theorem sA_snoc (l:List β)(g:List Nat)(v:Nat):sA l (g++[v]) x=(sA l g x).set v x:=by unfold sA;rw[Qdn];rfl
end
end Go.Px.Dg
namespace Go.Proofs.YtjibcckpehdbhaaGreatDoor
open Go.Px Go.Px.Scan Go.Px.Cn Go.RowKit
attribute [-go_sem] Builtin.append_ Zc.b7_1 Zc.b7_2 Zc.b4 Zc.b13 Zc.b19 Zc.b18_1 Zc.b18_2 Zc.b15_1 Zc.b15 Zc.b8 Zc.b23_1 Zc.b20
structure SolS where
 sets:List (Nat×Nat×List Nat)
 asn:List (Option Nat)
 R:List GRow
def ptO (o:Option Nat):Value := .pointer (o.map λ b=>⟨b,0,none⟩)
def stC (x:Nat×Nat×List Nat):Ch:=setC x.1 x.2.1 1024 x.2.2
def solL (sv sb ovv ob n:Nat)(σ:SolS):List Ch :=
 [boxC sv 158 [.slice (some ⟨sb,0,none⟩) n n],rowC 74 1 (some ⟨sb,0,none⟩) n n (σ.asn.map ptO),boxC ovv 50 [.slice (some ⟨ob,0,none⟩) n n],rowC 24 1 (some ⟨ob,0,none⟩) n n (σ.R.map slV),Ch.all (σ.R.map inC),Ch.all (σ.sets.map stC)]
section
variable {W:World} {sv sb ovv ob n ow rw_:Nat} {E own:List (List Nat)}
theorem Zwa {G:Nat->Prop}{W w:World}{L:List Ch}(st:St G W w L)(k:Nat){sb n c:Nat}{asn:List (Option Nat)}(hk:L[k]?=some (rowC 74 1 (some ⟨sb,0,none⟩) n c (asn.map ptO))){v:Nat}{o:Option Nat}(hv:asn[v]?=some o):w.cell? ⟨sb,v,none⟩=some (ptO o)/\w.frozen? ⟨sb,v,none⟩=false:=by
 have hvl:=(Qa.1 hv).1;obtain ⟨gl,el,hc,hf⟩:=st.rowAt k hk (j:=v) (by rw[Qp];exact hvl);injection el with el;injection el with el;subst el;refine ⟨?_,hf⟩;rw[hc,Q8,(Qa.1 hv).2]
theorem ZZ131 {w:World}{σ:SolS}{g:List Nat}{ga:Option Addr}{gc b gg:Nat}{ws:List Nat}{l0:Ch}{R:EP}{x2 x3 x4:Value}(hal:σ.asn.length=n)(hg:∀v∈g,v<n)(hgl:g.length<=100000)
  (st:St noB W w (solL sv sb ovv ob n σ++[rowC 3 1 ga g.length gc (nats g),l0,setC b gg 1024 ws]))
  (hgo:∀w',St noB W w' (solL sv sb ovv ob n ⟨σ.sets,Dg.sA σ.asn g (some b),σ.R⟩++[rowC 3 1 ga g.length gc (nats g),l0,setC b gg 1024 ws])->Zc.b8 R (.slice ga g.length gc) (.pointer (some ⟨sv,0,none⟩)) x2 x3 x4 (.pointer (some ⟨b,0,none⟩)) w') :
  Zc.b20 R (.slice ga g.length gc) (.pointer (some ⟨sv,0,none⟩)) x2 x3 x4 (.pointer (some ⟨b,0,none⟩)) w:=by
 unfold Zc.b20;simp -dsimp[go_sem];refine Zc.l22_intro _ _ _ _ _ _ _ _ _ _ _ (λ y w'=>∃k:Nat,y = .int .i64 k/\k<=g.length/\St noB W w' (solL sv sb ovv ob n ⟨σ.sets,Dg.sA σ.asn (g.take k) (some b),σ.R⟩++[rowC 3 1 ga g.length gc (nats g),l0,setC b gg 1024 ws])) (λ y _=>g.length-iv y)
  ⟨0,rfl,Qy _,st⟩ ?_
 rintro _ w1 ⟨k,rfl,hk,st1⟩ C hC;simp -dsimp[go_sem];refine Za (λ p1=>?_) (λ p1=>?_)<;>simp at p1
 ·have wk:=wS k (by omega);obtain ⟨v,hv⟩:∃v,g[k]=v:=⟨_,rfl⟩;have hvm:g[k]?=some v:=by rw[Qb p1,hv]
  have hvn:=hg v (Qe hvm);obtain ⟨gg',eg,hcg,_⟩:=st1.rowAt 6 rfl (j:=k) (by rw[Zdy];exact p1);subst eg;have hcg:w1.cell? ⟨gg',k,none⟩=some (.int .i64 (v:Nat)):=by
   rw[hcg];unfold nats;rw[Q8,hv]
  have y1:=(st1.box 0 rfl).1;simp[Zw]at y1;have hvl:v<(Dg.sA σ.asn (g.take k) (some b)).length:=by rw[Dg.sA_len,hal];exact hvn
  obtain ⟨l1,l2⟩:=Zwa st1 1 rfl (Qb hvl);have st2:=st1.setRow 1 rfl v (.pointer (some ⟨b,0,none⟩));unfold Zc.b23_1;simp -dsimp[go_sem,p1,hcg,y1,hvn,l1,l2,wk];refine hC _ _ ⟨k+1,by simp,by omega,?_⟩ (by simp[iv];omega);rw[Qd p1,hv,Dg.sA_snoc];unfold solL at st2 |-;simp only[Qap];exact st2
 ·have:k=g.length:=by omega
  subst this;rw[Qm]at st1;exact hgo w1 st1
end
theorem Zo7 (a:Addr)(w:World):(binOp BinOp.neq 74 (.pointer (some a)) (.pointer (some a))).run Tryz.prog w = .ok (.bool false) w:=by
 simp only[binOp,Op.equal];rw[show Op.maxDepth=9999+1 from rfl];unfold Op.equalIn;simp[run_underlying Tryz.underlying74,go_sem,run_sameAddr_same]
theorem Znd {a b:Addr}{ca cb:Array Value}{ta tb:TypeId}{w:World}(hne:a≠b)(ha:w.heap[a.block]?=some (.cells ca ta (0,0)))(hb:w.heap[b.block]?=some (.cells cb tb (0,0))):(binOp BinOp.neq 74 (.pointer (some a)) (.pointer (some b))).run Tryz.prog w = .ok (.bool true) w:=by
 simp only[binOp,Op.equal];rw[show Op.maxDepth=9999+1 from rfl];unfold Op.equalIn;simp[run_underlying Tryz.underlying74,go_sem,run_sameAddr_other w hne ha hb]
section
variable {W:World} {sv sb ovv ob n:Nat} {E own:List (List Nat)}
theorem ZZ48 {w:World}{σ:SolS}{g:List Nat}{ga:Option Addr}{gc b gg i:Nat}{ws:List Nat}{l0:Ch}{R:EP}{C10:VP}{l:List Nat}{la:Option Addr}{lc:Nat}(hD:Deb W)(hal:σ.asn.length=n)(hll:l.length<=100000)(hl:∀t∈l,t<n)
  (hrd:∀w',Chg noB W w'->(Zq rInt).at1 w' w'.heap.size (.slice la l.length lc) (l.map λ t:Nat=>(t:Int)))
  (hin:∀t∈l,t∈g->σ.asn[t]?=some (some b)) (hout:∀t∈l,t∉g->∃x∈σ.sets,σ.asn[t]?=some (some x.1)/\∀m,Bit x.2.2 m=true↔Dg.Sol E own t m) (hfr:∀x∈σ.sets,x.1≠b) (hsol:∀t m,Dg.Sol E own t m->m<1024)
  (st:St noB W w (solL sv sb ovv ob n σ++[rowC 3 1 ga g.length gc (nats g),l0,setC b gg 1024 ws]))
  (hgo:∀w' ws',(∀m,Bit ws' m=true↔Bit ws m=true\/∃t∈l,t∉g/\Dg.Sol E own t m)->St noB W w' (solL sv sb ovv ob n σ++[rowC 3 1 ga g.length gc (nats g),l0,setC b gg 1024 ws'])->Zc.b13 R C10 (.int .i64 i) w') :
  Zc.l17 R C10 (.pointer (some ⟨sv,0,none⟩)) (.pointer (some ⟨b,0,none⟩)) (.int .i64 i) (.slice la l.length lc) (.int .i64 l.length) (.int .i64 0) w:=by
 refine Zc.l17_intro _ _ _ _ _ _ _ _ _ (λ y w'=>∃(k:Nat) (ws':List Nat),y = .int .i64 k/\k<=l.length/\(∀m,Bit ws' m=true↔Bit ws m=true\/∃t∈l.take k,t∉g/\Dg.Sol E own t m)/\St noB W w' (solL sv sb ovv ob n σ++[rowC 3 1 ga g.length gc (nats g),l0,setC b gg 1024 ws'])) (λ y _=>l.length-iv y)
  ⟨0,ws,rfl,Qy _,λ m=>by simp,st⟩ ?_
 rintro _ w1 ⟨k,ws1,rfl,hk,hb1,st1⟩ C hC;simp -dsimp[go_sem];refine Za (λ p1=>?_) (λ p1=>?_)<;>simp at p1
 ·have wk:=wS k (by omega);obtain ⟨t,ht⟩:∃t,l[k]=t:=⟨_,rfl⟩;have htm:t∈l:=ht ▸ Qj p1;have htn:=hl t htm;obtain ⟨ba,oa,rfl,_,hct,_⟩:=Go.Px.ints_at (hrd w1 st1.chg) (i:=k) (by simpa using p1);have hct:w1.cell? ⟨ba,oa+k,none⟩=some (.int .i64 (t:Nat)):=by rw[hct];simp[ht]
  have y1:=(st1.box 0 rfl).1;simp[Zw]at y1;have up:∀w' ws',(∀m,Bit ws' m=true↔Bit ws m=true\/∃t∈l.take (k+1),t∉g/\Dg.Sol E own t m)->St noB W w' (solL sv sb ovv ob n σ++[rowC 3 1 ga g.length gc (nats g),l0,setC b gg 1024 ws'])->Zc.b19 R C10 C (.int .i64 k) w':=λ w' ws' h1 h2=>by
   unfold Zc.b19;simp -dsimp[go_sem,wk];exact hC _ _ ⟨k+1,ws',by simp,by omega,h1,h2⟩ (by simp[iv];omega)
  rw[Qd p1,ht]at up;by_cases hg:t∈g
  ·obtain ⟨a1,a2⟩:=Zwa st1 1 rfl (hin t htm hg);have a1:w1.cell? ⟨sb,t,none⟩=some (.pointer (some ⟨b,0,none⟩)):=a1;unfold Zc.b18_2;simp -dsimp[go_sem,p1,hct,y1,htn,a1,Zo7];refine up w1 ws1 (λ m=>?_) st1;rw[hb1];refine or_congr_right ⟨λ ⟨t',h1,h2⟩=>⟨t',Q0 _ h1,h2⟩,λ ⟨t',h1,h2⟩=>?_⟩;rcases Qk.1 h1 with h1|h1
   ·exact ⟨t',h1,h2⟩
   ·rw[Qg]at h1;subst h1;exact absurd hg h2.1
  ·obtain ⟨x,hx,hxa,hxb⟩:=hout t htm hg;obtain ⟨a1,a2⟩:=Zwa st1 1 rfl hxa;have a1:w1.cell? ⟨sb,t,none⟩=some (.pointer (some ⟨x.1,0,none⟩)):=a1;have hxne:=hfr x hx;obtain ⟨q,hq⟩:=Qo.1 hx;have hql:=(Qa.1 hq).1;have hqs:(σ.sets.map stC)[q]?=some (stC x):=by rw[Qh,hq];rfl
   obtain ⟨F8,ho8,_⟩:=st1.get (k:=8) rfl;obtain ⟨F5,sF5,_⟩:=st1.inAll' 5 rfl;obtain ⟨F9,ho9,_⟩:=sF5.get hqs;have hb8:=ho8.2.2.2.2.1;have hb9:=ho9.2.2.2.2.1;have hnp:=Znd (w:=w1) (a:=⟨x.1,0,none⟩) (b:=⟨b,0,none⟩) (λ e=>by injection e with e;exact hxne e) hb9 hb8;unfold Zc.b18_2;simp -dsimp[go_sem,p1,hct,y1,htn,a1,hnp];have st2:=(st1.outof 5 q rfl hqs).alloc #[.pointer (some ⟨x.1,0,none⟩)] 74;unfold Zc.b18_1;simp -dsimp[go_sem,y1,htn,a1];generalize w1.alloc (.cells #[.pointer (some ⟨x.1,0,none⟩)] 74)=w2 at st2 |-;generalize w1.heap.size=pb at st2 |-;refine Zi (Zqp (k:=8) (k2:=9) (ko:=10) st2 rfl rfl rfl (by omega) (by omega) (by omega) hD) ?_;rintro _ w3 ⟨cc,ws2,rfl,hb2,_,st3⟩;have st4:=st3.intoAt 9 5 q rfl rfl (by decide) (by rw[Qau,Qp];exact hql);have st5:=st4.take 9;refine up w3 ws2 (λ m=>?_) ?_
   ·rw[hb2,hb1,hxb];constructor
    ·rintro ((h|⟨t',h1,h2⟩)|⟨h1,h2⟩)
     ·exact Or.inl h
     ·exact Or.inr ⟨t',Q0 _ h1,h2⟩
     ·exact Or.inr ⟨t,by simp,hg,h1⟩
    ·rintro (h|⟨t',h1,h2,h3⟩)
     ·exact Or.inl (Or.inl h)
     ·rcases Qk.1 h1 with h1|h1
      ·exact Or.inl (Or.inr ⟨t',h1,h2,h3⟩)
      ·rw[Qg]at h1;subst h1;exact Or.inr ⟨h3,hsol _ _ h3⟩
   ·have e:((σ.sets.map stC).set q Ch.emp).set q (stC x)=σ.sets.map stC:=by
     rw[Qbe];have hql':q<(σ.sets.map stC).length:=by rw[Qp];exact hql
     have:=Qai hql';rw[(Qa.1 hqs).2]at this;exact this
    unfold solL;rw[<-e];exact st5
 ·have:k=l.length:=by omega
  subst this;rw[Qm]at hb1;exact hgo w1 ws1 hb1 st1
end
section
variable {W:World} {sv sb ovv ob n bo br:Nat} {E own:List (List Nat)} {rv ownv:Value}
def NodeB (E own:List (List Nat))(g:List Nat)(v m:Nat):Prop:=(∃l,own[v]?=some l/\m∈l)\/∃l,E[v]?=some l/\∃t∈l,t∉g/\Dg.Sol E own t m
theorem Zfi {w:World}{v:Value}{E:List (List Nat)}(h:Zeo w v (toI E)){i:Nat}{l:List Nat}(hl:E[i]?=some l):∃b o a c cc,v = .slice (some ⟨b,o,none⟩) E.length c/\b<w.heap.size/\w.cell? ⟨b,o+i,none⟩=some (.slice a l.length cc)/\(Zq rInt).at1 w w.heap.size (.slice a l.length cc) (l.map λ t:Nat=>(t:Int)):=by
 obtain ⟨A,c,rfl,h⟩:=h;obtain ⟨b,o,a,cc,rfl,hb,h1,h2⟩:=h i _ (ZZ14 hl);rw[Qp]at h1 h2;exact ⟨b,o,a,c,cc,by unfold toI;rw[Qp],hb,h1,h2⟩
theorem Zx5 {w:World}{σ:SolS}{g:List Nat}{ga:Option Addr}{gc b gg:Nat}{ws:List Nat}{l0:Ch}{R:EP}{x4:Value}(hD:Deb W)(hal:σ.asn.length=n)(hEn:E.length=n)(hon:own.length=n)(hgn:∀v∈g,v<n)(hgl:g.length<=100000)(hlen:∀l∈E,l.length<=100000)(hedge:∀(v:Nat) l,E[v]?=some l->∀t∈l,t<n)
  (hbo:∀w',Chg noB W w'->w'.cell? ⟨bo,0,none⟩=some ownv) (hbr:∀w',Chg noB W w'->w'.cell? ⟨br,0,none⟩=some rv) (hown:∀w',Chg noB W w'->Zeo w' ownv (toI own)) (hrows:∀w',Chg noB W w'->Zeo w' rv (toI E))
  (hin:∀t∈g,σ.asn[t]?=some (some b)) (hout:∀v∈g,∀l,E[v]?=some l->∀t∈l,t∉g->∃x∈σ.sets,σ.asn[t]?=some (some x.1)/\∀m,Bit x.2.2 m=true↔Dg.Sol E own t m) (hfr:∀x∈σ.sets,x.1≠b) (hsol:∀t m,Dg.Sol E own t m->m<1024) (ho24:∀l∈own,∀m∈l,m<1024)
  (hws:∀m,Bit ws m=false)
  (st:St noB W w (solL sv sb ovv ob n σ++[rowC 3 1 ga g.length gc (nats g),l0,setC b gg 1024 ws]))
  (hgo:∀w' ws',(∀m,Bit ws' m=true↔∃v∈g,NodeB E own g v m)->St noB W w' (solL sv sb ovv ob n σ++[rowC 3 1 ga g.length gc (nats g),l0,setC b gg 1024 ws'])->Zc.b4 R (.slice ga g.length gc) x4 (.pointer (some ⟨b,0,none⟩)) w') :
  Zc.b8 R (.slice ga g.length gc) (.pointer (some ⟨sv,0,none⟩)) (.pointer (some ⟨bo,0,none⟩)) (.pointer (some ⟨br,0,none⟩)) x4 (.pointer (some ⟨b,0,none⟩)) w:=by
 unfold Zc.b8;simp -dsimp[go_sem];refine Zc.l10_intro _ _ _ _ _ _ _ _ _ _ _ (λ y w'=>∃(k:Nat) (ws':List Nat),y = .int .i64 k/\k<=g.length/\(∀m,Bit ws' m=true↔∃v∈g.take k,NodeB E own g v m)/\St noB W w' (solL sv sb ovv ob n σ++[rowC 3 1 ga g.length gc (nats g),l0,setC b gg 1024 ws'])) (λ y _=>g.length-iv y)
  ⟨0,ws,rfl,Qy _,λ m=>by simp[hws],st⟩ ?_
 rintro _ w1 ⟨k,ws1,rfl,hk,hb1,st1⟩ C hC;simp -dsimp[go_sem];refine Za (λ p1=>?_) (λ p1=>?_)<;>simp at p1
 ·have wk:=wS k (by omega);obtain ⟨v,hv⟩:∃v,g[k]=v:=⟨_,rfl⟩;have hvm:v∈g:=hv ▸ Qj p1;have hvn:=hgn v hvm;obtain ⟨gg',eg,hcg,_⟩:=st1.rowAt 6 rfl (j:=k) (by rw[Zdy];exact p1);subst eg;have hcg:w1.cell? ⟨gg',k,none⟩=some (.int .i64 (v:Nat)):=by
   rw[hcg];unfold nats;rw[Q8,hv]
  have hov:own[v]?=some own[v]:=Qb (by omega);have hEv:E[v]?=some E[v]:=Qb (by omega);obtain ⟨lo,hlo⟩:∃l,own[v]=l:=⟨_,rfl⟩;obtain ⟨le,hle⟩:∃l,E[v]=l:=⟨_,rfl⟩;rw[hlo]at hov;rw[hle]at hEv;obtain ⟨b1,o1,a1,c1,k1,eo,_,r1,r2⟩:=Zfi (hown w1 st1.chg) hov;have y1:=hbo w1 st1.chg;rw[eo,hon]at y1;unfold Zc.b15;simp -dsimp[go_sem,p1,hcg,y1,hvn,r1];refine Zi (Zqu (k:=8) st1 rfl (by omega) (ms:=lo.map λ t:Nat=>(t:Int)) λ w' ws' s'=>?_) ?_
  ·obtain ⟨b1',o1',a1',c1',k1',eo',_,r1',r2'⟩:=Zfi (hown w' s'.chg) hov;rw[eo]at eo';injection eo' with e1;injection e1 with e1;injection e1 with e1 e2;subst e1 e2;have h3:=(hown w1 st1.chg);obtain ⟨b2,o2,a2,c2,k2,eo2,_,q1,q2⟩:=Zfi (hown W (Chg.refl _ _)) hov;rw[eo]at eo2;injection eo2 with e1;injection e1 with e1;injection e1 with e1 e2;subst e1 e2;have g1:=st1.chg.at q1 id;have g2:=s'.chg.at q1 id;rw[r1]at g1;rw[r1']at g2;injection g1 with g1;injection g1 with g1 _ g3;injection g2 with g2;injection g2 with g2 _ g4;subst g1 g2 g3 g4;exact r2'
  rintro _ w2 ⟨cc,ws2,rfl,hb2,_,st2⟩;have st2:St noB W w2 (solL sv sb ovv ob n σ++[rowC 3 1 (some ⟨gg',0,none⟩) g.length gc (nats g),l0,setC b gg 1024 ws2]):=st2;obtain ⟨b3,o3,a3,c3,k3,er,_,r3,r4⟩:=Zfi (hrows w2 st2.chg) hEv;have y2:=hbr w2 st2.chg;rw[er,hEn]at y2;unfold Zc.b15_1;simp -dsimp[go_sem,y2,hvn,r3];refine ZZ48 (E:=E) (own:=own) (l:=le) hD hal (hlen le (Qe hEv)) (hedge v le hEv) (λ w' hc=>?_) (λ t _ ht=>hin t ht) (λ t ht hng=>hout v hvm le hEv t ht hng) hfr hsol st2 λ w3 ws3 hb3 st3=>?_
  ·obtain ⟨b1',o1',a1',c1',k1',eo',_,r1',r2'⟩:=Zfi (hrows w' hc) hEv;rw[er]at eo';injection eo' with e1;injection e1 with e1;injection e1 with e1 e2;subst e1 e2;obtain ⟨b2,o2,a2,c2,k2,eo2,_,q1,q2⟩:=Zfi (hrows W (Chg.refl _ _)) hEv;rw[er]at eo2;injection eo2 with e1;injection e1 with e1;injection e1 with e1 e2;subst e1 e2;have g1:=st2.chg.at q1 id;have g2:=hc.at q1 id;rw[r3]at g1;rw[r1']at g2;injection g1 with g1;injection g1 with g1 _ g3;injection g2 with g2;injection g2 with g2 _ g4;subst g1 g2 g3 g4;exact r2'
  unfold Zc.b13;simp -dsimp[go_sem,wk];refine hC _ _ ⟨k+1,ws3,by simp,by omega,λ m=>?_,st3⟩ (by simp[iv];omega);rw[hb3,hb2,hb1,Qd p1,hv];constructor
  ·rintro ((⟨u,h1,h2⟩|⟨h1,h2⟩)|⟨t,h1,h2,h3⟩)
   ·exact ⟨u,Q0 _ h1,h2⟩
   ·obtain ⟨m',hm',e⟩:=Qr.1 h1;have:m'=m:=by omega
    subst this;exact ⟨v,by simp,Or.inl ⟨lo,hov,hm'⟩⟩
   ·exact ⟨v,by simp,Or.inr ⟨le,hEv,t,h1,h2,h3⟩⟩
  ·rintro ⟨u,h1,h2⟩;rcases Qk.1 h1 with h1|h1
   ·exact Or.inl (Or.inl ⟨u,h1,h2⟩)
   ·rw[Qg]at h1;subst h1;rcases h2 with ⟨l,h3,h4⟩|⟨l,h3,t,h4,h5,h6⟩
    ·rw[hov]at h3;injection h3 with h3;subst h3;exact Or.inl (Or.inr ⟨Qr.2 ⟨m,h4,rfl⟩,ho24 _ (Qe hov) m h4⟩)
    ·rw[hEv]at h3;injection h3 with h3;subst h3;exact Or.inr ⟨t,h4,h5,h6⟩
 ·have:k=g.length:=by omega
  subst this;rw[Qm]at hb1;exact hgo w1 ws1 hb1 st1
end
section
variable {W:World} {sv sb ovv ob n:Nat} {E own:List (List Nat)}
theorem ZZ140 {w:World}{σ:SolS}{g:List Nat}{ga:Option Addr}{gc b gg:Nat}{ws:List Nat}{l0:Ch}{R:EP}(hD:Deb W)(hRl:σ.R.length=n)(hgn:∀v∈g,v<n)(hgl:g.length<=100000)
  (st:St noB W w (solL sv sb ovv ob n σ++[rowC 3 1 ga g.length gc (nats g),l0,setC b gg 1024 ws]))
  (hgo:∀w' R',R'.length=n->(∀v:Nat,(v∈g->∃r:GRow,R'[v]?=some r/\r.2.2=(memb ws).map λ m:Nat=>(m:Int))/\(v∉g->R'[v]?=σ.R[v]?))->(memb ws).length<=1024->St noB W w' (solL sv sb ovv ob n ⟨σ.sets++[(b,gg,ws)],σ.asn,R'⟩++[l0])->R (.returned (.tuple #[])) w') :
  Zc.b4 R (.slice ga g.length gc) (.pointer (some ⟨ovv,0,none⟩)) (.pointer (some ⟨b,0,none⟩)) w:=by
 obtain ⟨hok,_⟩:=st.setAt 8 rfl;have hml:(memb ws).length<=1024:=by
  unfold memb;have:=Qah (Bit ws) (List.range (64*ws.length));rw[Qci]at this;have:=hok.len;omega
 have hmb:∀m∈memb ws,m<1000000000:=λ m hm=>by
  have:=hok.sz m (Zhu.1 hm);omega
 unfold Zc.b4;refine Zi (Zla (k:=8) st rfl (by omega) (by omega) hD) ?_;rintro _ w1 ⟨A,c,rfl,st1⟩;obtain ⟨mem,hmem⟩:∃l,(memb ws).map (λ m:Nat=>(m:Int))=l:=⟨_,rfl⟩;have hmeml:mem.length=(memb ws).length:=by rw[<-hmem,Qp]
 have st1:St noB W w1 ([rowC 3 1 A (memb ws).length c (nats (memb ws))]++(solL sv sb ovv ob n σ++[rowC 3 1 ga g.length gc (nats g),l0,setC b gg 1024 ws])):=st1;rw[hmem]at hgo;simp -dsimp[go_sem];refine Zc.l6_intro _ _ _ _ _ _ _ (λ y w'=>∃(k:Nat) (R':List GRow),y = .int .i64 k/\k<=g.length/\R'.length=n/\(∀v:Nat,(v∈g.take k->∃r:GRow,R'[v]?=some r/\r.2.2=mem)/\(v∉g.take k->R'[v]?=σ.R[v]?))/\St noB W w' ([rowC 3 1 A (memb ws).length c (nats (memb ws))]++(solL sv sb ovv ob n ⟨σ.sets,σ.asn,R'⟩++[rowC 3 1 ga g.length gc (nats g),l0,setC b gg 1024 ws]))) (λ y _=>g.length-iv y)
  ⟨0,σ.R,rfl,Qy _,hRl,λ v=>⟨λ h=>by simp at h,λ _=>rfl⟩,st1⟩ ?_
 rintro _ w2 ⟨k,R',rfl,hk,hR1,hR2,st2⟩ C hC;simp -dsimp[go_sem];refine Za (λ p1=>?_) (λ p1=>?_)<;>simp at p1
 ·have wk:=wS k (by omega);obtain ⟨v,hv⟩:∃v,g[k]=v:=⟨_,rfl⟩;have hvn:=hgn v (hv ▸ Qj p1);obtain ⟨gg',eg,hcg,_⟩:=st2.rowAt 7 rfl (j:=k) (by rw[Zdy];exact p1);subst eg;have hcg:w2.cell? ⟨gg',k,none⟩=some (.int .i64 (v:Nat)):=by
   rw[hcg];unfold nats;rw[Q8,hv]
  have y2:=(st2.box 3 rfl).1;have yl2:=(st2.box 3 rfl).2.2;simp[Zw]at y2;unfold Zc.b7_2;simp -dsimp[go_sem,p1,hcg,y2,yl2];have st2d:=st2.old (Chg.refl noB w2).drew;obtain ⟨hrd,_⟩:=Zzz st2d 0 rfl hmb;rw[hmem]at hrd;refine Zi (Zn3 st2d hrd (by omega)) ?_;rintro _ w3 ⟨a3,c3,rfl,st3⟩;have y3:=(st3.box 3 rfl).1;simp[Zw]at y3;have hxv:R'[v]?=some R'[v]:=Qb (by omega);obtain ⟨q1,q2,_⟩:=Ze1 st3 4 rfl hxv;have st4:=st3.setRow 4 rfl v (.slice a3 mem.length c3);have st5:=st4.intoAt 10 5 v rfl rfl (by decide) (by rw[Qp];show v<R'.length;omega);have st6:=st5.take 10;unfold Zc.b7_1;simp -dsimp[go_sem,y3,hvn,q1,q2,wk];refine hC _ _ ⟨k+1,R'.set v (a3,c3,mem),by simp,by omega,by rw[Qau];exact hR1,λ u=>?_,?_⟩ (by simp[iv];omega)
  ·rw[Qd p1,hv];by_cases e:v=u
   ·subst e;exact ⟨λ _=>⟨_,Qn (by omega),rfl⟩,λ h=>absurd (by simp) h⟩
   ·rw[Qs e];refine ⟨λ h=>(hR2 u).1 ?_,λ h=>(hR2 u).2 λ h'=>h (Q0 _ h')⟩;rcases Qk.1 h with h|h
    ·exact h
    ·rw[Qg]at h;exact absurd h.symm e
  ·unfold solL;simp only[Qap];exact st6
 ·have:k=g.length:=by omega
  subst this;rw[Qm]at hR2;have st3:=(st2.into 9 6 rfl rfl (by decide)).pick (L':=[boxC sv 158 [.slice (some ⟨sb,0,none⟩) n n],rowC 74 1 (some ⟨sb,0,none⟩) n n (σ.asn.map ptO),boxC ovv 50 [.slice (some ⟨ob,0,none⟩) n n],rowC 24 1 (some ⟨ob,0,none⟩) n n (R'.map slV),Ch.all (R'.map inC),Ch.all (σ.sets.map stC++[setC b gg 1024 ws])]++[l0]) [1,2,3,4,5,6,8] (by decide) rfl;have e:(σ.sets++[(b,gg,ws)]).map stC=σ.sets.map stC++[setC b gg 1024 ws]:=by rw[Qu];rfl
  rw[<-e]at st3;exact hgo w2 R' hR1 hR2 hml st3
end
section
variable {W:World} {sv sb ovv ob n bo br:Nat} {E own:List (List Nat)} {rv ownv:Value}
structure SolI (E own:List (List Nat))(n:Nat)(σ:SolS)(D:Nat->Prop):Prop where
 al:σ.asn.length=n
 rl:σ.R.length=n
 st:∀v,v<n->D v->∃x∈σ.sets,σ.asn[v]?=some (some x.1)/\∀m,Bit x.2.2 m=true↔Dg.Sol E own v m
 out:∀v,v<n->D v->∃r:GRow,σ.R[v]?=some r/\r.2.2.length<=1024/\∀y:Int,y∈r.2.2↔∃m:Nat,y=(m:Int)/\Dg.Sol E own v m
theorem Zp9 (hDb:Deb W)(hEn:E.length=n)(hon:own.length=n)(hn:n<=40000)(hlen:∀l∈E,l.length<=100000)(hedge:∀(v:Nat) l,E[v]?=some l->∀t∈l,t<n)(ho24:∀l∈own,∀m∈l,m<1024)
  (hbo:∀w',Chg noB W w'->w'.cell? ⟨bo,0,none⟩=some ownv) (hbr:∀w',Chg noB W w'->w'.cell? ⟨br,0,none⟩=some rv) (hown:∀w',Chg noB W w'->Zeo w' ownv (toI own)) (hrows:∀w',Chg noB W w'->Zeo w' rv (toI E)) :
  Zto W E (solL sv sb ovv ob n) (SolI E own n) Zc.id #[] #[.pointer (some ⟨sv,0,none⟩),.pointer (some ⟨bo,0,none⟩),.pointer (some ⟨br,0,none⟩),.pointer (some ⟨ovv,0,none⟩)]:=by
 intro w L0 σ D low g a c hI hD hG st;have hgl:g.length<=100000:=by
  have:=Dg.nodup_lt_len hG.nd hG.lt;omega
 have hgn:∀v∈g,v<n:=λ v hv=>by have:=hG.lt v hv;omega
 have hsol:∀t m,Dg.Sol E own t m->m<1024:=λ t m ⟨u,l,_,h1,h2⟩=>ho24 l (Qe h1) m h2;refine Zc.ct λ R hR=>?_;unfold Zc.run Zc.b1;refine Zi (Ztw (W:=W) (size:=1024) (ms:=[]) st.chg (by omega) λ w' hc=>⟨none,0,rfl,by simp,by unfold maxLen;omega,trivial,λ h=>absurd h (by simp)⟩) ?_;rintro _ w1 ⟨b,gg,ws,rfl,hws,stB⟩;have hws0:∀m,Bit ws m=false:=λ m=>by
  rw[Qb5];intro h;have:=((hws m).1 h).1;cases this
 have st0:=st.unflat;have hbnew:∀x∈σ.sets,x.1≠b:=λ x hx e=>by
  obtain ⟨q,hq⟩:=Qo.1 hx;obtain ⟨F5,sF5,_⟩:=st0.inAll' 5 rfl;obtain ⟨F9,ho9,_⟩:=sF5.get (k:=q) (c:=stC x) (by rw[Qh,hq];rfl);have hlt:x.1<w.heap.size:=(Qw.1 ho9.2.2.2.2.1).1;obtain ⟨F0,ho0,hF0⟩:=stB.get (k:=0) rfl;have:=(hF0 b ho0.2.1).2 (by rw[<-e];exact hlt);exact this
 have st1:=st0.seq stB;have st1:St noB W w1 (solL sv sb ovv ob n σ++[rowC 3 1 a g.length c (nats g),Ch.all L0,setC b gg 1024 ws]):=st1;refine ZZ131 hI.al hgn hgl st1 λ w2 st2=>?_;have hsA:∀t,t<n->((t∈g->(Dg.sA σ.asn g (some b))[t]?=some (some b))/\(t∉g->(Dg.sA σ.asn g (some b))[t]?=σ.asn[t]?)):=λ t ht=>⟨λ h=>Dg.sA_in h (by rw[hI.al];exact ht),λ h=>Dg.sA_out h⟩;refine Zx5 (E:=E) (own:=own) (rv:=rv) (ownv:=ownv) (σ:=⟨σ.sets,Dg.sA σ.asn g (some b),σ.R⟩) hDb (by show (Dg.sA σ.asn g (some b)).length=n;rw[Dg.sA_len];exact hI.al) hEn hon hgn hgl hlen hedge hbo hbr hown hrows (λ t ht=>(hsA t (hgn t ht)).1 ht) (λ v hv l hl t ht hng=>?_) hbnew hsol ho24 hws0 st2 λ w3 ws3 hb3 st3=>?_
 ·have htn:=hedge v l hl t ht;rcases hG.out v hv l hl t ht with h|h
  ·exact absurd h hng
  ·obtain ⟨x,hx,h1,h2⟩:=hI.st t htn ((hD t).1 h);exact ⟨x,hx,by rw[(hsA t htn).2 hng];exact h1,h2⟩
 ·refine ZZ140 (σ:=⟨σ.sets,Dg.sA σ.asn g (some b),σ.R⟩) hDb hI.rl hgn hgl st3 λ w4 R' hR1 hR2 hml st4=>?_;have hbs:∀v∈g,∀m,Bit ws3 m=true↔Dg.Sol E own v m:=λ v hv m=>by
   rw[hb3,hG.sol hv];constructor
   ·rintro ⟨u,hu,h⟩;exact ⟨u,hu,h⟩
   ·rintro ⟨u,hu,h⟩;exact ⟨u,hu,h⟩
  refine hR _ _ ⟨⟨σ.sets++[(b,gg,ws3)],Dg.sA σ.asn g (some b),R'⟩,⟨by rw[Dg.sA_len];exact hI.al,hR1,λ v hv hd=>?_,λ v hv hd=>?_⟩,st4.flat⟩
  ·by_cases hg:v∈g
   ·exact ⟨(b,gg,ws3),Qa2 _ (by simp),(hsA v hv).1 hg,hbs v hg⟩
   ·obtain ⟨x,hx,h1,h2⟩:=hI.st v hv (hd.elim id λ h=>absurd h hg);exact ⟨x,Q0 _ hx,by rw[<-h1];exact (hsA v hv).2 hg,h2⟩
  ·by_cases hg:v∈g
   ·obtain ⟨r,h1,h2⟩:=(hR2 v).1 hg;refine ⟨r,h1,by rw[h2,Qp];exact hml,λ y=>?_⟩;rw[h2,Qr];constructor
    ·rintro ⟨m,hm,rfl⟩;exact ⟨m,rfl,(hbs v hg m).1 (Zhu.1 hm)⟩
    ·rintro ⟨m,rfl,hm⟩;exact ⟨m,Zhu.2 ((hbs v hg m).2 hm),rfl⟩
   ·obtain ⟨r,h1,h2⟩:=hI.out v hv (hd.elim id λ h=>absurd h hg);exact ⟨r,by rw[<-h1];exact (hR2 v).2 hg,h2⟩
end
theorem Zsk {w:World}{bx:Nat}{A:Option Addr}{n c:Nat}(hb:w.cell? ⟨bx,0,none⟩=some (.slice A n c))(x:Int):Ct Tryz.prog Zcz.id #[.int .i64 x,.pointer (some ⟨bx,0,none⟩)] w λ v w'=>v = .bool (decide (x<0) || decide ((n:Int)<=x))/\Chg noB w w':=by
 refine Zcz.ct λ R hR=>?_;unfold Zcz.run;simp -dsimp[go_sem,hb];refine Za (λ p1=>?_) (λ p1=>?_)<;>simp at p1
 ·exact hR _ _ ⟨by simp[p1],Chg.refl _ _⟩
 ·simp -dsimp[go_sem,hb];refine hR _ _ ⟨?_,Chg.refl _ _⟩;have:decide (x<0)=false:=by simp;omega
  rw[this];simp
theorem Zus {w:World}{bx:Nat}{A:Option Addr}{n c B:Nat}{v:Value}{l:List Int}(hb:∀w',Chg noB w w'->w'.cell? ⟨bx,0,none⟩=some (.slice A n c))(hl:(Zq rInt).at1 w B v l)(hB:B<=w.heap.size):Ct Tryz.prog Zda.id #[v,.pointer (some ⟨bx,0,none⟩)] w λ r w'=>r = .bool (l.any λ x=>decide (x<0) || decide ((n:Int)<=x))/\Chg noB w w':=by
 refine Zda.ct λ R hR=>?_;unfold Zda.run;simp -dsimp[go_sem];refine Zi (Zel hl hB λ x hx w' hc=>Zsk (hb w' hc) x) ?_;rintro _ w1 ⟨rfl,hc⟩;exact hR _ _ ⟨rfl,hc⟩
theorem Zu7 {w:World}(x:Int):Ct Tryz.prog Zdd.id #[.int .i64 x] w λ v w'=>v = .bool (decide (x<0) || decide (1024<=x))/\Chg noB w w':=by
 refine Zdd.ct λ R hR=>?_;unfold Zdd.run;simp -dsimp[go_sem];refine Za (λ p1=>?_) (λ p1=>?_)<;>simp at p1
 ·exact hR _ _ ⟨by simp[p1],Chg.refl _ _⟩
 ·simp -dsimp[go_sem];refine hR _ _ ⟨?_,Chg.refl _ _⟩;have:decide (x<0)=false:=by simp;omega
  rw[this];simp
theorem Zmh {w:World}{v:Value}{E:List (List Int)}(h:Zeo w v E)(hE:E.length<=100000){g:FuncId}{first cap:Array Value}{p:List Int->Bool}
  (hp:∀l∈E,∀w' a cc,Chg noB w w'->(Zq rInt).at1 w' w'.heap.size (.slice a l.length cc) l->Ct Tryz.prog g (first.toList++[Value.slice a l.length cc]++cap.toList).toArray w' λ v w''=>v = .bool (p l)/\Chg noB w' w'') :
  Ct Tryz.prog Zau.id #[v,.func (.func g) first cap] w λ r w'=>(∃i,r = .int .i64 i/\(0<=i↔E.any p=true))/\Chg noB w w':=by
 refine Zau.ct λ R hR=>?_;obtain ⟨A,c,rfl,_⟩:=id h;unfold Zau.run;simp -dsimp[go_sem];refine Zau.l6_intro _ _ _ _ _ _ (λ x w1=>∃k:Nat,x = .int .i64 k/\k<=E.length/\(E.take k).any p=false/\Chg noB w w1) (λ x _=>E.length-iv x) ⟨0,rfl,by omega,by simp,Chg.refl _ _⟩ ?_;rintro _ w1 ⟨k,rfl,hk,hall,hcw⟩ C hC;simp -dsimp[go_sem];refine Za (λ h2=>?_) (λ h2=>?_)<;>simp at h2
 ·have wk:=wS k (by omega);obtain ⟨A',c',e,hr⟩:=h.keep hcw;injection e with e1 e2 e3;subst e1 e3;obtain ⟨b,o,a,cc,rfl,hb,hc1,hr1⟩:=hr k E[k] (Qb h2);simp -dsimp[go_sem,h2,hc1];refine Zdx (hp E[k] (Qj h2) w1 a cc hcw hr1) ?_;rintro _ w2 ⟨rfl,hc2⟩;refine Za (λ h3=>?_) (λ h3=>?_)
  ·refine hR _ _ ⟨⟨k,rfl,?_⟩,hcw.trans hc2⟩;refine ⟨λ _=>Qbc.2 ⟨_,Qj h2,h3⟩,λ _=>by omega⟩
  ·simp -dsimp[go_sem,wk];refine hC _ _ ⟨k+1,by simp,by omega,?_,hcw.trans hc2⟩ (by simp[iv];omega);rw[Qd h2,Qdr,hall];simp[h3]
 ·have hka:k=E.length:=by omega
  rw[hka,Qm]at hall;simp -dsimp[go_sem];exact hR _ _ ⟨⟨-1,rfl,by rw[hall];simp⟩,hcw⟩
theorem Zxz {w:World}{v:Value}{E:List (List Int)}(h:∀w',Chg noB w w'->Zeo w' v E)(hE:E.length<=100000) :
  Ct Tryz.prog Zds.id #[v] w λ r w'=>r = .bool (!(E.any λ l=>l.any λ x=>decide (x<0) || decide ((E.length:Int)<=x)))/\Chg noB w w':=by
 refine Zds.ct λ R hR=>?_;obtain ⟨A,c,rfl,_⟩:=id (h w (Chg.refl _ _));have s1:=(St.refl noB w).alloc #[.slice A E.length c] 50;unfold Zds.run;simp -dsimp[go_sem];generalize w.alloc (.cells #[.slice A E.length c] 50)=w1 at s1 |-;generalize w.heap.size=bx at s1 |-;refine Zi (S:=λ r w'=>r = .bool (E.any λ l=>l.any λ x=>decide (x<0) || decide ((E.length:Int)<=x))/\Chg noB w1 w') ?_ ?_
 ·refine Zbc.ct λ R' hR'=>?_;unfold Zbc.run;simp -dsimp[go_sem];refine Zi (Zmh (p:=λ l=>l.any λ x=>decide (x<0) || decide ((E.length:Int)<=x)) (h w1 s1.chg) hE λ l hl w' a cc hc hr=>Zus (A:=A) (n:=E.length) (c:=c) (λ w'' hc'=>((s1.old (hc.trans hc')).box 0 rfl).1.1) hr (Ql _)) ?_;rintro _ w2 ⟨⟨i,rfl,hi⟩,hc⟩;simp -dsimp[go_sem];refine hR' _ _ ⟨?_,hc⟩;congr 1;cases ha:(E.any λ l=>l.any λ x=>decide (x<0) || decide ((E.length:Int)<=x))
  ·rw[ha]at hi;simpa using hi
  ·rw[ha]at hi;simpa using hi
 ·rintro _ w2 ⟨rfl,hc⟩;simp -dsimp[go_sem];exact hR _ _ ⟨rfl,s1.chg.trans hc⟩
attribute [-go_sem] Zat.b4 Zat.b8_1 Zat.b5 Zat.b10 Zat.b9_1 Zat.b9
theorem iPtr':(Tryz.prog.info? 74).map (λ i=>(i.zero,i.size,i.bytes))=some (some (.pointer none),1,8):=by kernel_rfl
theorem ZZ170 (w:World)(n:Nat)(h:n<=1000000):(Instr.makeSlice 158 (.int .i64 n) (.int .i64 n)).run Tryz.prog w = .ok (.slice (some ⟨w.heap.size,0,none⟩) n n) (w.alloc (.cells (Array.replicate n (Value.pointer none)) 74)):=by
 obtain ⟨i0,hi,hz0,hz1,hz2⟩:=info_parts iPtr';have:=run_make (P:=Tryz.prog) w 158 74 i0 _ Tryz.underlying158 hi hz0 .i64 .i64 n n (by omega) (by omega) (by rw[hz2];omega) (by omega);rw[this];have e:madeCells (Value.pointer none).cells ((n:Int).toNat*i0.size)=Array.replicate n (Value.pointer none):=by
  rw[hz1,Qb7,Qax];have:=toList_madeCells_one (Value.pointer none) n;apply Qcx.1;rw[Qa8];exact this
 rw[e];simp
section
variable {W:World} {n bo br:Nat} {E own:List (List Nat)} {rv ownv:Value}
theorem Zzc {w:World}{R:EP}(hDb:Deb W)(hEn:E.length=n)(hon:own.length=n)(hn:n<=40000)(hlen:∀l∈E,l.length<=100000)(hedge:∀(v:Nat) l,E[v]?=some l->∀t∈l,t<n)(ho24:∀l∈own,∀m∈l,m<1024)
  (hbo:∀w',Chg noB W w'->w'.cell? ⟨bo,0,none⟩=some ownv) (hbr:∀w',Chg noB W w'->w'.cell? ⟨br,0,none⟩=some rv) (hown:∀w',Chg noB W w'->Zeo w' ownv (toI own)) (hrows:∀w',Chg noB W w'->Zeo w' rv (toI E)) (hc:Chg noB W w)
  (hR:∀w' vv Eo,Eo.length=n->(∀(i:Nat) l,Eo[i]?=some l->∀y:Int,y∈l↔∃m:Nat,y=(m:Int)/\Dg.Sol E own i m)->Chg noB W w'->Zeo w' vv Eo->R (.returned (.tuple #[vv,.int .i64 0])) w') :
  Zat.b4 R (.pointer (some ⟨br,0,none⟩)) (.pointer (some ⟨bo,0,none⟩)) w:=by
 obtain ⟨A,c,erv,_⟩:=hrows w hc;have hEl:(toI E).length=n:=by unfold toI;rw[Qp,hEn]
 rw[hEl]at erv;have s1:=((St.start hc).lit 74 1 n (Array.replicate n (Value.pointer none)) (by unfold maxLen;omega) (by simp)).alloc #[.slice (some ⟨w.heap.size,0,none⟩) n n] 158;have e1:(w.alloc (.cells (Array.replicate n (Value.pointer none)) 74)).heap.size=w.heap.size+1:=by simp
 rw[e1]at s1;have y:=hbr w hc;rw[erv]at y;unfold Zat.b4;simp -dsimp[go_sem,y,ZZ170 w n (by omega)];generalize (w.alloc (.cells (Array.replicate n (Value.pointer none)) 74)).alloc (.cells #[.slice (some ⟨w.heap.size,0,none⟩) n n] 158)=w2 at s1 |-;generalize w.heap.size+1=sv at s1 |-;generalize w.heap.size=sb at s1 |-;have y2:=hbr w2 s1.chg;rw[erv]at y2;have s2:=(s1.lit 24 1 n (Array.replicate n (Value.slice none 0 0)) (by unfold maxLen;omega) (by simp)).alloc #[.slice (some ⟨w2.heap.size,0,none⟩) n n] 50;have e2:(w2.alloc (.cells (Array.replicate n (Value.slice none 0 0)) 24)).heap.size=w2.heap.size+1:=by simp
 rw[e2]at s2;simp -dsimp[go_sem,y2,Zz2 w2 n (by omega)];generalize (w2.alloc (.cells (Array.replicate n (Value.slice none 0 0)) 24)).alloc (.cells #[.slice (some ⟨w2.heap.size,0,none⟩) n n] 50)=w3 at s2 |-;generalize w2.heap.size+1=ovv at s2 |-;generalize w2.heap.size=ob at s2 |-;have y3:=hbr w3 s2.chg;rw[erv]at y3;simp -dsimp[go_sem,y3]
 let σ0:SolS:=⟨[],List.replicate n none,List.replicate n (none,0,[])⟩
 have s3:St noB W w3 (solL sv sb ovv ob n σ0):=by
  have h1:=(s2.push (c:=Ch.all (σ0.R.map inC)) ⟨λ _=>0,λ i h=>absurd rfl h,λ k c hc=>by
   rw[Qh]at hc
   obtain ⟨x,hx,rfl⟩:=Q4.1 hc
   have:=Qa0 (Qe hx)
   subst this
   exact Zlv _ _ _ _⟩).push (c:=Ch.all (σ0.sets.map stC)) ⟨λ _=>0,λ i h=>absurd rfl h,λ k c hc=>by simp[σ0]at hc⟩
  have h2:=h1.pick (L':=[boxC sv 158 [.slice (some ⟨sb,0,none⟩) n n],rowC 74 1 (some ⟨sb,0,none⟩) n n (Array.replicate n (Value.pointer none)).toList,boxC ovv 50 [.slice (some ⟨ob,0,none⟩) n n],rowC 24 1 (some ⟨ob,0,none⟩) n n (Array.replicate n (Value.slice none 0 0)).toList,Ch.all (σ0.R.map inC),Ch.all (σ0.sets.map stC)]) [1,0,3,2,4,5] (by decide) rfl;have q1:(Array.replicate n (Value.pointer none)).toList=σ0.asn.map ptO:=by rw[Qa8];show _=(List.replicate n none).map ptO;rw[Qcq];rfl
  have q2:(Array.replicate n (Value.slice none 0 0)).toList=σ0.R.map slV:=by rw[Qa8];show _=(List.replicate n ((none,0,[]):GRow)).map slV;rw[Qcq];rfl
  rw[q1,q2]at h2;exact h2
 have hsp:=Zp9 (sv:=sv) (sb:=sb) (ovv:=ovv) (ob:=ob) hDb hEn hon hn hlen hedge ho24 hbo hbr hown hrows;rw[<-erv];refine Zi (ZZ19 (σ:=σ0) hsp hrows (by omega) hlen (λ v l hl t ht=>by rw[hEn];exact hedge v l hl t ht) s3.group ⟨by simp[σ0],by simp[σ0],λ v _ h=>h.elim,λ v _ h=>h.elim⟩) ?_;rintro _ w4 ⟨σ',D,hI,hD,s4⟩;have s5:St noB W w4 (solL sv sb ovv ob n σ'):=(St.flat (L:=[]) s4);have y5:=(s5.box 2 rfl).1;simp[Zw]at y5;simp -dsimp[go_sem,y5];refine hR w4 _ (σ'.R.map λ x=>x.2.2) (by rw[Qp];exact hI.rl) (λ i l hl y=>?_) s5.chg ⟨some ⟨ob,0,none⟩,n,by rw[Qp,hI.rl],λ i l hl=>?_⟩
 ·rw[Qh]at hl;obtain ⟨x,hx,rfl⟩:=Q4.1 hl;have hi:i<n:=by rw[<-hI.rl];exact (Qa.1 hx).1
  obtain ⟨r,h1,h2,h3⟩:=hI.out i hi (hD i (by omega));rw[hx]at h1;injection h1 with h1;subst h1;exact h3 y
 ·rw[Qh]at hl;obtain ⟨x,hx,rfl⟩:=Q4.1 hl;have hi:i<n:=by rw[<-hI.rl];exact (Qa.1 hx).1
  obtain ⟨r,h1,h2,h3⟩:=hI.out i hi (hD i (by omega));rw[hx]at h1;injection h1 with h1;subst h1;obtain ⟨z1,_,_⟩:=Ze1 s5 3 rfl hx;obtain ⟨F,sF,_⟩:=s5.inAll' 4 rfl;obtain ⟨F2,ho,_⟩:=sF.get (k:=i) (c:=inC x) (by rw[Qh,hx];rfl);obtain ⟨q1,q2,q3⟩:=Zee (show (rowC 3 1 x.1 x.2.2.length x.2.1 (ints x.2.2)).ok w4 F2 from ho);refine ⟨ob,0,x.1,x.2.1,rfl,World.block_lt_of_cell? _ _ z1,by simpa[slV]using z1,?_⟩;have e:ints x.2.2=x.2.2.flatMap λ y=>[Value.int .i64 y]:=by
   unfold ints
   induction x.2.2 with
   | nil=>rfl
   | cons a l ih=>simp;exact ih
  have ho':(rowC 3 1 x.1 x.2.2.length x.2.1 (x.2.2.flatMap λ y=>[Value.int .i64 y])).ok w4 F2:=by rw[<-e];exact ho
  refine Zki (r:=rInt) (enc:=λ y:Int=>[Value.int .i64 y]) ho' rfl (λ _ _=>rfl) (by decide) (λ B y hy=>⟨rfl,?_⟩) q2 q3;obtain ⟨m,rfl,u,l',_,h5,h6⟩:=(h3 y).1 hy;have:=ho24 l' (Qe h5) m h6;exact ⟨by omega,by omega⟩
end
theorem ZZ72 {E:List (List Nat)}{n:Nat}(h:∀l∈E,∀t∈l,t<n):((toI E).any λ l=>l.any λ x=>decide (x<0) || decide ((n:Int)<=x))=false:=by
 rw[Qb5];intro ha;obtain ⟨l,hl,h1⟩:=Qbc.1 ha;unfold toI at hl;obtain ⟨l',hl',rfl⟩:=Qr.1 hl;obtain ⟨x,hx,h2⟩:=Qbc.1 h1;obtain ⟨t,ht,rfl⟩:=Qr.1 hx;have:=h l' hl' t ht;simp at h2;omega
theorem Zyc {w:World}{n:Nat}{E own:List (List Nat)}{rv ownv:Value}(hDb:Deb w)(hEn:E.length=n)(hon:own.length=n)(hn:n<=40000)(hlen:∀l∈E,l.length<=100000)(hedge:∀l∈E,∀t∈l,t<n)(ho24:∀l∈own,∀m∈l,m<1024)
  (hown:Zeo w ownv (toI own)) (hrows:Zeo w rv (toI E)) :
  Ct Tryz.prog Zat.id #[rv,ownv] w λ v w'=>∃vv Eo,v = .tuple #[vv,.int .i64 0]/\Eo.length=n/\(∀(i:Nat) l,Eo[i]?=some l->∀y:Int,y∈l↔∃m:Nat,y=(m:Int)/\Dg.Sol E own i m)/\Chg noB w w'/\Zeo w' vv Eo:=by
 refine Zat.ct λ R hR=>?_;obtain ⟨A,c,erv,_⟩:=id hrows;obtain ⟨A2,c2,eow,hor⟩:=id hown;have hEl:(toI E).length=n:=by unfold toI;rw[Qp,hEn]
 have hOl:(toI own).length=n:=by unfold toI;rw[Qp,hon]
 rw[hEl]at erv;rw[hOl]at eow;have s1:=((St.refl noB w).alloc #[.slice A n c] 50).alloc #[.slice A2 n c2] 50;have e1:(w.alloc (.cells #[.slice A n c] 50)).heap.size=w.heap.size+1:=by simp
 rw[e1]at s1;unfold Zat.run;rw[erv,eow];simp -dsimp[go_sem];generalize (w.alloc (.cells #[.slice A n c] 50)).alloc (.cells #[.slice A2 n c2] 50)=w1 at s1 |-;generalize w.heap.size+1=bo at s1 |-;generalize w.heap.size=br at s1 |-;have hbr:∀w',Chg noB w1 w'->w'.cell? ⟨br,0,none⟩=some rv:=λ w' hc=>by rw[erv];exact ((s1.old hc).box 0 rfl).1.1
 have hbo:∀w',Chg noB w1 w'->w'.cell? ⟨bo,0,none⟩=some ownv:=λ w' hc=>by rw[eow];exact ((s1.old hc).box 1 rfl).1.1
 have hrw:∀w',Chg noB w1 w'->Zeo w' rv (toI E):=λ w' hc=>hrows.keep (s1.chg.trans hc);have how:∀w',Chg noB w1 w'->Zeo w' ownv (toI own):=λ w' hc=>hown.keep (s1.chg.trans hc);have y1:=hbr w1 (Chg.refl _ _);unfold Zat.b9;simp -dsimp[go_sem,y1];refine Zi (Zxz hrw (by omega)) ?_;rintro _ w2 ⟨rfl,hc2⟩;rw[hEl,ZZ72 hedge];have y2:=hbr w2 hc2;have z2:=hbo w2 hc2;rw[erv]at y2;rw[eow]at z2;simp -dsimp[go_sem];unfold Zat.b9_1;simp -dsimp[go_sem,y2,z2];unfold Zat.b10;simp -dsimp[go_sem];unfold Zat.b5;simp -dsimp[go_sem,z2];refine Zat.l7_intro _ _ _ _ _ _ _ (λ y w'=>∃k:Nat,y = .int .i64 k/\k<=n/\Chg noB w1 w') (λ y _=>n-iv y) ⟨0,rfl,Qy _,hc2⟩ ?_;rintro _ w3 ⟨k,rfl,hk,hc3⟩ C hC;simp -dsimp[go_sem];refine Za (λ p1=>?_) (λ p1=>?_)<;>simp at p1
 ·have wk:=wS k (by omega);have hok:own[k]?=some own[k]:=Qb (by omega);obtain ⟨b,o,a,c',cc,e,_,r1,r2⟩:=Zfi (how w3 hc3) hok;rw[eow]at e;injection e with e2 e3 e4;subst e2;unfold Zat.b8_1;simp -dsimp[go_sem,p1,r1];refine Zi (Zel (first:=#[]) (cap:=#[]) r2 (Ql _) (p:=λ x=>decide (x<0) || decide (1024<=x)) λ x _ w' _=>Zu7 x) ?_;rintro _ w4 ⟨rfl,hc4⟩;have hno:((own[k].map λ t:Nat=>(t:Int)).any λ x=>decide (x<0) || decide (1024<=x))=false:=by
   rw[Qb5];intro ha;obtain ⟨x,hx,h2⟩:=Qbc.1 ha;obtain ⟨t,ht,rfl⟩:=Qr.1 hx;have:=ho24 _ (Qj (by omega)) t ht;simp at h2;omega
  rw[hno];simp -dsimp[go_sem,wk];exact hC _ _ ⟨k+1,by simp,by omega,hc3.trans hc4⟩ (by simp[iv];omega)
 ·exact Zzc (W:=w1) (hDb.chg s1.chg id) hEn hon hn hlen (λ v l hl=>hedge l (Qe hl)) ho24 hbo hbr how hrw hc3 λ w' vv Eo h1 h2 h3 h4=>hR _ _ ⟨vv,Eo,rfl,h1,h2,s1.chg.trans h3,h4⟩
end Go.Proofs.YtjibcckpehdbhaaGreatDoor
namespace Go.Px.Cn
open Go.Px Go.Px.Scan
inductive Rq (Q:Nat->Int->Prop):Nat->Nat->Prop
 | refl (v:Nat):Rq Q v v
 | step {u v t:Nat}:Rq Q u v->Q v (t:Int)->Rq Q u t
def SoQ (Q1 Q2:Nat->Int->Prop)(i:Nat)(y:Int):Prop:=∃u,Rq Q2 i u/\Q1 u y
theorem Zmr {Eo:List (List Int)}(h:∀l∈Eo,∀y∈l,0<=y):Eo=Go.Proofs.YtjibcckpehdbhaaGreatDoor.toI (Eo.map λ l=>l.map Int.toNat):=by
 unfold Go.Proofs.YtjibcckpehdbhaaGreatDoor.toI;rw[Qds]
 conv=>lhs;rw[<-List.map_id Eo]
 refine Qdg λ l hl=>?_
 show l=(l.map Int.toNat).map λ t:Nat=>(t:Int)
 rw[Qds]
 conv=>lhs;rw[<-List.map_id l]
 refine Qdg λ y hy=>?_;have:=h l hl y hy
 show y=((y.toNat:Nat):Int)
 omega
theorem ZZ22 {Q1 Q2:Nat->Int->Prop}{E own:List (List Nat)}(hE:∀(v:Nat) l,E[v]?=some l->∀t:Nat,t∈l↔Q2 v t)(hO:∀(v:Nat) l,own[v]?=some l->∀t:Nat,t∈l↔Q1 v t)(hE2:∀v t,Q2 v t->v<E.length)(hO2:∀v t,Q1 v t->v<own.length){i m:Nat}:Dg.Sol E own i m↔SoQ Q1 Q2 i m:=by
 have hr:∀u,Dg.Rc E i u↔Rq Q2 i u:=λ u=>by
  constructor
  ·intro h
   induction h with
   | refl=>exact .refl _
   | step _ h2 h3 ih=>exact .step ih ((hE _ _ h2 _).1 h3)
  ·intro h
   induction h with
   | refl=>exact .refl _
   | @step v t _ h2 ih=>
    have hv:=hE2 v t h2;exact .step ih (Qb hv) ((hE v _ (Qb hv) t).2 h2)
 constructor
 ·rintro ⟨u,l,h1,h2,h3⟩;exact ⟨u,(hr u).1 h1,(hO u l h2 m).1 h3⟩
 ·rintro ⟨u,h1,h2⟩;have hu:=hO2 u m h2;exact ⟨u,_,(hr u).2 h1,Qb hu,(hO u _ (Qb hu) m).2 h2⟩
end Go.Px.Cn
namespace Go.Proofs.YtjibcckpehdbhaaGreatDoor
open Go.Px Go.Px.Scan Go.Px.Cn Go.RowKit
attribute [-go_sem] Builtin.append_ Zah.b1_1 Zah.b1_2 Zah.b1_3 Zah.b1_4
theorem Zm1 {w:World}{B:Nat}{vg:Value}{g:Gr}{f1 f2:FuncId}{Q1 Q2:List (List It)->List (Nat×Int)->Nat->Int->Prop}(hg:Zb7.atN w B vg g)(hB:B<=w.heap.size)(hD:Deb w)
  (hf1:∀w',Chg noB w w'->Ct Tryz.prog f1 #[vg] w' λ v w''=>Chg noB w' w''/\RelM Q1 g w'' v) (hf2:∀w',Chg noB w w'->Ct Tryz.prog f2 #[vg] w' λ v w''=>Chg noB w' w''/\RelA Q2 g w'' v)
  (hQ1:∀ks ess,AutP g ks ess->∀i y,Q1 ks (trL g.terms.length ess) i y->(0<=y/\y<1024)/\i<(trL g.terms.length ess).length) (hQ2:∀ks ess,AutP g ks ess->∀i y,Q2 ks (trL g.terms.length ess) i y->(0<=y/\y<(trL g.terms.length ess).length)/\i<(trL g.terms.length ess).length) :
  Ct Tryz.prog Zah.id #[.agg #[.func (.func f1) #[] #[],.func (.func f2) #[] #[]],vg] w λ v w'=>Chg noB w w'/\RelM (λ ks T=>SoQ (Q1 ks T) (Q2 ks T)) g w' v:=by
 refine Zah.ct λ R hR=>?_;obtain ⟨A1,c1,A2,c2,A3,c3,A4,c4,rfl,_,_,_,_⟩:=Zbg hg hB;unfold Zah.run;simp -dsimp[go_sem];have s1:=((St.refl noB w).alloc #[.func (.func f1) #[] #[],.func (.func f2) #[] #[]] 177).alloc (gQ A1 c1 A2 c2 A3 c3 A4 c4 g) 27;have e1:(w.alloc (.cells #[.func (.func f1) #[] #[],.func (.func f2) #[] #[]] 177)).heap.size=w.heap.size+1:=by simp
 rw[e1]at s1;generalize (w.alloc (.cells #[.func (.func f1) #[] #[],.func (.func f2) #[] #[]] 177)).alloc (.cells (gQ A1 c1 A2 c2 A3 c3 A4 c4 g) 27)=w1 at s1 |-;generalize w.heap.size+1=gb at s1 |-;generalize w.heap.size=fb at s1 |-;refine Zdx (hf1 w1 s1.chg) ?_;rintro v w2 ⟨hc2,hres⟩;have s2:=s1.old hc2;have bad:∀e:Nat,NoAut g e->((e:Int) != 0)=true:=λ e he=>by rcases he with ⟨rfl,_⟩ | ⟨rfl,_⟩<;>rfl
 unfold Zah.b1_4;rcases hres with ⟨e,he,rfl⟩|⟨ks,ess,ov,O,hP,rfl,hO1,hO2,hO3⟩
 ·rw[Ur_eq,Zic,Zb2,Ur_eq,Zh6,Zb2];have hne:=bad e he;simp -dsimp[go_sem,hne];exact hR _ _ ⟨s2.chg,Or.inl ⟨e,he,rfl⟩⟩
 rw[Ur_eq,Zic,Zb2,Ur_eq,Zh6,Zb2];simp -dsimp[go_sem];have y2:=(s2.box 0 rfl).1;have z2:=(s2.box 1 rfl).1;simp[Zw]at y2 z2;unfold Zah.b1_3;simp -dsimp[go_sem,y2,z2];refine Zdx (hf2 w2 s2.chg) ?_;rintro v w3 ⟨hc3,hres⟩;unfold Zah.b1_2;rcases hres with ⟨e,he,rfl⟩|⟨ks2,ess2,rv,E,hP2,rfl,hE1,hE2,hE3⟩
 ·exact absurd he hP.noAut
 obtain ⟨rfl,rfl⟩:=hP2.uniq hP;rw[Ur_eq,Zic,Zb2,Ur_eq,Zh6,Zb2];simp -dsimp[go_sem];obtain ⟨T,hT⟩:∃T,trL g.terms.length ess2=T:=⟨_,rfl⟩;have hTl:=hP.trLen g.terms.length;have q1:=hQ1 _ _ hP;have q2:=hQ2 _ _ hP;rw[hT]at hTl q1 q2 hO1 hO2 hE1 hE2;have eE:=Zmr (Eo:=E) λ l hl y hy=>by
  obtain ⟨i,hi⟩:=Qo.1 hl;exact (q2 i y (((hE2 i l hi).2 y).1 hy)).1.1
 have eO:=Zmr (Eo:=O) λ l hl y hy=>by
  obtain ⟨i,hi⟩:=Qo.1 hl;exact (q1 i y ((hO2 i l hi y).1 hy)).1.1
 have mapE:∀(v:Nat) l,(E.map λ l=>l.map Int.toNat)[v]?=some l->∃l0,E[v]?=some l0/\l=l0.map Int.toNat:=λ v l h=>by
  rw[Qh]at h;obtain ⟨l0,h1,rfl⟩:=Q4.1 h;exact ⟨l0,h1,rfl⟩
 have mapO:∀(v:Nat) l,(O.map λ l=>l.map Int.toNat)[v]?=some l->∃l0,O[v]?=some l0/\l=l0.map Int.toNat:=λ v l h=>by
  rw[Qh]at h;obtain ⟨l0,h1,rfl⟩:=Q4.1 h;exact ⟨l0,h1,rfl⟩
 have memE:∀(v:Nat) l,(E.map λ l=>l.map Int.toNat)[v]?=some l->∀t:Nat,t∈l↔Q2 ks2 T v t:=λ v l h t=>by
  obtain ⟨l0,h1,rfl⟩:=mapE v l h;rw[<-(hE2 v l0 h1).2,Qr];constructor
  ·rintro ⟨y,hy,rfl⟩;have:=(q2 v y (((hE2 v l0 h1).2 y).1 hy)).1.1;rwa [show ((y.toNat:Nat):Int)=y by omega]
  ·intro h;exact ⟨_,h,by simp⟩
 have memO:∀(v:Nat) l,(O.map λ l=>l.map Int.toNat)[v]?=some l->∀t:Nat,t∈l↔Q1 ks2 T v t:=λ v l h t=>by
  obtain ⟨l0,h1,rfl⟩:=mapO v l h;rw[<-hO2 v l0 h1,Qr];constructor
  ·rintro ⟨y,hy,rfl⟩;have:=(q1 v y ((hO2 v l0 h1 y).1 hy)).1.1;rwa [show ((y.toNat:Nat):Int)=y by omega]
  ·intro h;exact ⟨_,h,by simp⟩
 refine Zi (Zyc (n:=T.length) (E:=E.map λ l=>l.map Int.toNat) (own:=O.map λ l=>l.map Int.toNat) (hD.chg ((s2.chg).trans hc3) id) (by rw[Qp,hE1]) (by rw[Qp,hO1]) (by omega) (λ l hl=>?_) (λ l hl t ht=>?_) (λ l hl m hm=>?_) (by rw[<-eO];exact hO3.keep hc3) (by rw[<-eE];exact hE3.m)) ?_
 ·obtain ⟨i,hi⟩:=Qo.1 hl;obtain ⟨l0,h1,rfl⟩:=mapE i l hi;rw[Qp];have:=Zqa (n:=T.length) 0 (hE2 i l0 h1).1 λ x hx=>by have:=(q2 i x (((hE2 i l0 h1).2 x).1 hx)).1;omega
  omega
 ·obtain ⟨i,hi⟩:=Qo.1 hl;have:=(q2 i t ((memE i l hi t).1 ht)).1;omega
 ·obtain ⟨i,hi⟩:=Qo.1 hl;have:=(q1 i m ((memO i l hi m).1 hm)).1;omega
 ·rintro _ w4 ⟨vv,Eo,rfl,h1,h2,hc4,h3⟩;unfold Zah.b1_1;rw[Ur_eq,Zic,Zb2,Ur_eq,Zh6,Zb2];refine hR _ _ ⟨(s2.chg.trans hc3).trans hc4,Or.inr ⟨ks2,ess2,vv,Eo,hP,rfl,by rw[hT];exact h1,λ i l hl y=>?_,h3⟩⟩;rw[hT,h2 i l hl];have key:∀m:Nat,Dg.Sol (E.map λ l=>l.map Int.toNat) (O.map λ l=>l.map Int.toNat) i m↔SoQ (Q1 ks2 T) (Q2 ks2 T) i m:=λ m=>ZZ22 memE memO (λ v t h=>by rw[Qp,hE1];exact (q2 v t h).2) (λ v t h=>by rw[Qp,hO1];exact (q1 v t h).2);constructor
  ·rintro ⟨m,rfl,hm⟩;exact (key m).1 hm
  ·intro h;obtain ⟨u,h4,h5⟩:=id h;obtain ⟨m,rfl⟩:∃m:Nat,y=m:=⟨y.toNat,by have:=(q1 u y h5).1;omega⟩;exact ⟨m,rfl,(key m).2 h⟩
attribute [-go_sem] Zbs.b1_1 Zbs.b1_2 Zbv.b1_1 Zbv.b1_2
def fnV (f:FuncId):Value := .func (.func f) #[] #[]
theorem bRel (a b:FuncId)(w:World):(Instr.build 177 #[(0,.func (.func a) #[] #[]),(1,.func (.func b) #[] #[])]).run Tryz.prog w = .ok (.agg #[.func (.func a) #[] #[],.func (.func b) #[] #[]]) w:=by
 have e1:∀(A:Array Value) (k:Nat) (f:FuncId),Array.foldl (λ (cs:Array Value) (x:Value×Nat)=>cs.setIfInBounds (k+x.snd) x.fst) A (Value.func (.func f) #[] #[]).cells.zipIdx 0 1=A.setIfInBounds k (.func (.func f) #[] #[]):=λ A k f=>rfl;simp[go_sem,e1]
attribute [go_sem ↓] bRel
theorem bRels (a b c d:FuncId)(w:World):(Instr.buildSlice 178 2 #[(0,.agg #[.func (.func a) #[] #[],.func (.func b) #[] #[]]),(1,.agg #[.func (.func c) #[] #[],.func (.func d) #[] #[]])]).run Tryz.prog w = .ok (.slice (some ⟨w.heap.size,0,none⟩) 2 2) (w.alloc (.cells #[fnV a,fnV b,fnV c,fnV d] 177)):=by
 have f1:Array.foldl (λ (cs:Array Value) (x:Value×Nat)=>cs.setIfInBounds x.snd x.fst) #[Value.nilFunc,Value.nilFunc,Value.nilFunc,Value.nilFunc] (Value.agg #[.func (.func a) #[] #[],.func (.func b) #[] #[]]).cells.zipIdx 0 2=#[fnV a,fnV b,Value.nilFunc,Value.nilFunc]:=rfl;have f2:Array.foldl (λ (cs:Array Value) (x:Value×Nat)=>cs.setIfInBounds (2+x.snd) x.fst) #[fnV a,fnV b,Value.nilFunc,Value.nilFunc] (Value.agg #[.func (.func c) #[] #[],.func (.func d) #[] #[]]).cells.zipIdx 0 2=#[fnV a,fnV b,fnV c,fnV d]:=rfl;simp[go_sem,f1,f2];rfl
attribute [go_sem ↓] bRels
theorem Zi9 {w:World}:Ct Tryz.prog Zc9.id #[] w λ v w'=>∃rb,v = .slice (some ⟨rb,0,none⟩) 2 2/\St noB w w' [boxC rb 177 [fnV Zm.id,fnV Zb4.id,fnV Zbs.id,fnV Za5.id]]:=by
 refine Zc9.ct λ R hR=>?_;unfold Zc9.run;simp -dsimp[go_sem];exact hR _ _ ⟨_,rfl,(St.refl noB w).alloc #[fnV Zm.id,fnV Zb4.id,fnV Zbs.id,fnV Za5.id] 177⟩
theorem Zsp {w:World}{B:Nat}{vg:Value}{g:Gr}(hg:Zb7.atN w B vg g)(hB:B<=w.heap.size)(hD:Deb w) :
  Ct Tryz.prog Zbs.id #[vg] w λ v w'=>Chg noB w w'/\RelM (λ ks T=>SoQ (DrQ g.terms.length g.start g.prods ks T) (RdQ g.prods ks T)) g w' v:=by
 refine Zbs.ct λ R hR=>?_;obtain ⟨A1,c1,A2,c2,A3,c3,A4,c4,rfl,_,_,_,_⟩:=Zbg hg hB;have s1:=(St.refl noB w).alloc (gQ A1 c1 A2 c2 A3 c3 A4 c4 g) 27;unfold Zbs.run;simp -dsimp[go_sem];have s2:=s1.old (Chg.refl noB _).drew;generalize (w.alloc (.cells (gQ A1 c1 A2 c2 A3 c3 A4 c4 g) 27)).drew=w1 at s2 |-;generalize w.heap.size=gb at s2 |-;refine Zi Zi9 ?_;rintro _ w2 ⟨rb,rfl,s3⟩;have y2:=((s2.old s3.chg).box 0 rfl).1;have z2:=(s3.box 0 rfl).1;have z2l:=(s3.box 0 rfl).2.2;simp[Zw]at y2 z2;unfold Zbs.b1_2;simp -dsimp[go_sem,y2,z2,z2l];have hc12:=s2.chg.trans s3.chg;have hgk:∀w',Chg noB w2 w'->Zb7.atN w' B (.agg (gQ A1 c1 A2 c2 A3 c3 A4 c4 g)) g:=λ w' hc=>Zx hg ((hc12.trans hc).below hB λ _ _=>id);have hBk:∀w',Chg noB w2 w'->B<=w'.heap.size:=λ w' hc=>by have:=(hc12.trans hc).size;omega
 refine Zi (Zm1 (f1:=Zm.id) (f2:=Zb4.id) (Q1:=DrQ g.terms.length g.start g.prods) (Q2:=RdQ g.prods) (hgk w2 (Chg.refl _ _)) (hBk w2 (Chg.refl _ _)) (hD.chg hc12 id) (λ w' hc=>Zwe (hgk w' hc) (hBk w' hc)) (λ w' hc=>Zyo (hgk w' hc) (hBk w' hc) (hD.chg (hc12.trans hc) id)) (λ ks ess hP i y hy=>?_) λ ks ess hP i y hy=>?_) ?_
 ·obtain ⟨q,A,h1,h2⟩:=hy;have hT1:=hP.cl.syms.t1;refine ⟨?_,(Qa.1 h1).1⟩;rcases h2 with ⟨_,_,rfl⟩|⟨r,h2,h3,h4⟩
  ·omega
  ·obtain ⟨r2,h5⟩:=hP.au.gt h4;obtain ⟨⟨es',he1,he2⟩,_⟩:=hP.gt h5;have:=hP.sym he1 he2;simp only at this;omega
 ·obtain ⟨q,r,j,A,C,h1,_,_,h2,rfl⟩:=hy;have:=(Qa.1 h2).1;exact ⟨by omega,(Qa.1 h1).1⟩
 ·rintro v w3 ⟨hc3,hres⟩;unfold Zbs.b1_1;rcases hres with ⟨e,he,rfl⟩|⟨ks,ess,vv,E,hP,rfl,h1⟩
  ·simp -dsimp[go_sem];exact hR _ _ ⟨hc12.trans hc3,Or.inl ⟨e,he,rfl⟩⟩
  ·simp -dsimp[go_sem];exact hR _ _ ⟨hc12.trans hc3,Or.inr ⟨ks,ess,vv,E,hP,rfl,h1⟩⟩
theorem Zoh {w:World}{B:Nat}{vg:Value}{g:Gr}(hg:Zb7.atN w B vg g)(hB:B<=w.heap.size)(hD:Deb w) :
  Ct Tryz.prog Zbv.id #[vg] w λ v w'=>Chg noB w w'/\RelM (λ ks T=>SoQ (SoQ (DrQ g.terms.length g.start g.prods ks T) (RdQ g.prods ks T)) (IncQ g.prods ks T)) g w' v:=by
 refine Zbv.ct λ R hR=>?_;obtain ⟨A1,c1,A2,c2,A3,c3,A4,c4,rfl,_,_,_,_⟩:=Zbg hg hB;have s1:=(St.refl noB w).alloc (gQ A1 c1 A2 c2 A3 c3 A4 c4 g) 27;unfold Zbv.run;simp -dsimp[go_sem];have s2:=s1.old (Chg.refl noB _).drew;generalize (w.alloc (.cells (gQ A1 c1 A2 c2 A3 c3 A4 c4 g) 27)).drew=w1 at s2 |-;generalize w.heap.size=gb at s2 |-;refine Zi Zi9 ?_;rintro _ w2 ⟨rb,rfl,s3⟩;have y2:=((s2.old s3.chg).box 0 rfl).1;have z2:=(s3.box 0 rfl).1;have z2l:=(s3.box 0 rfl).2.2;simp[Zw]at y2 z2;unfold Zbv.b1_2;simp -dsimp[go_sem,y2,z2,z2l];have hc12:=s2.chg.trans s3.chg;have hgk:∀w',Chg noB w2 w'->Zb7.atN w' B (.agg (gQ A1 c1 A2 c2 A3 c3 A4 c4 g)) g:=λ w' hc=>Zx hg ((hc12.trans hc).below hB λ _ _=>id);have hBk:∀w',Chg noB w2 w'->B<=w'.heap.size:=λ w' hc=>by have:=(hc12.trans hc).size;omega
 refine Zi (Zm1 (f1:=Zbs.id) (f2:=Za5.id) (Q1:=λ ks T=>SoQ (DrQ g.terms.length g.start g.prods ks T) (RdQ g.prods ks T)) (Q2:=IncQ g.prods) (hgk w2 (Chg.refl _ _)) (hBk w2 (Chg.refl _ _)) (hD.chg hc12 id) (λ w' hc=>Zsp (hgk w' hc) (hBk w' hc) (hD.chg (hc12.trans hc) id)) (λ w' hc=>Zps (hgk w' hc) (hBk w' hc) (hD.chg (hc12.trans hc) id)) (λ ks ess hP i y hy=>?_) λ ks ess hP i y hy=>?_) ?_
 ·obtain ⟨u,h0,q,A,h1,h2⟩:=hy;have hT1:=hP.cl.syms.t1;have hi:i<(trL g.terms.length ess).length:=by
   have:i=u\/∃t:Nat,RdQ g.prods ks (trL g.terms.length ess) i t:=by
    clear h1 h2
    induction h0 with
    | refl=>exact Or.inl rfl
    | step _ h ih=>rcases ih with rfl | ih;exact Or.inr ⟨_,h⟩;exact Or.inr ih
   rcases this with rfl|⟨t,q',r,j,A',C,h3,_⟩
   ·exact (Qa.1 h1).1
   ·exact (Qa.1 h3).1
  refine ⟨?_,hi⟩;rcases h2 with ⟨_,_,rfl⟩|⟨r,h2,h3,h4⟩
  ·omega
  ·obtain ⟨r2,h5⟩:=hP.au.gt h4;obtain ⟨⟨es',he1,he2⟩,_⟩:=hP.gt h5;have:=hP.sym he1 he2;simp only at this;omega
 ·obtain ⟨i',p,k,q0,h1,_,_,⟨q,B',_,_,h2,_⟩,rfl⟩:=hy;have:=(Qa.1 h1).1;exact ⟨by omega,(Qa.1 h2).1⟩
 ·rintro v w3 ⟨hc3,hres⟩;unfold Zbv.b1_1;rcases hres with ⟨e,he,rfl⟩|⟨ks,ess,vv,E,hP,rfl,h1⟩
  ·simp -dsimp[go_sem];exact hR _ _ ⟨hc12.trans hc3,Or.inl ⟨e,he,rfl⟩⟩
  ·simp -dsimp[go_sem];exact hR _ _ ⟨hc12.trans hc3,Or.inr ⟨ks,ess,vv,E,hP,rfl,h1⟩⟩
attribute [-go_sem] Zt.b3 Zt.b9 Zt.b13_1 Zt.b13 Zt.b17_1 Zt.b14 Zt.b11 Zt.b4 Zt.b1_1 Zt.b1_2 Zt.b1_3
section
variable {W:World}
theorem Zvi {w:World}{b gg nT k1:Nat}{ws:List Nat}{L:List Ch}{F:List (List Int)}{fv:Value}{by_:List Nat}{ba:Option Addr}{bc i:Nat}{R:EP}{C6:Value->VP}{x7 x9:Value}(hnT:nT<=1024)(hF:∀w',Chg noB W w'->Zeo w' fv F)(hFl:F.length<=100000)(hby:∀y∈by_,y<F.length)(hbl:by_.length<=maxLen)
  (hrd:∀w',Chg noB W w'->(Zq rInt).at1 w' w'.heap.size (.slice ba by_.length bc) (by_.map λ y:Nat=>(y:Int)))
  (st:St noB W w (setC b gg nT ws::L))
  (hgo:∀w' ws',(∀m,Bit ws' m=true↔Bit ws m=true\/∃y∈by_,∃l,F[y]?=some l/\(m:Int)∈l/\m<nT)->St noB W w' (setC b gg nT ws'::L)->Zt.b13 R C6 x7 x9 (.pointer (some ⟨b,0,none⟩)) (.int .i64 i) w') :
  Zt.l16 R C6 fv x7 x9 (.pointer (some ⟨b,0,none⟩)) (.int .i64 i) (.slice ba by_.length bc) (.int .i64 by_.length) (.int .i64 0) w:=by
 refine Zt.l16_intro _ _ _ _ _ _ _ _ _ _ _ (λ y w'=>∃(k:Nat) (ws':List Nat),y = .int .i64 k/\k<=by_.length/\(∀m,Bit ws' m=true↔Bit ws m=true\/∃y∈by_.take k,∃l,F[y]?=some l/\(m:Int)∈l/\m<nT)/\St noB W w' (setC b gg nT ws'::L)) (λ y _=>by_.length-iv y)
  ⟨0,ws,rfl,Qy _,λ m=>by simp,st⟩ ?_
 rintro _ w1 ⟨k,ws1,rfl,hk,hb1,st1⟩ C hC;simp -dsimp[go_sem];refine Za (λ p1=>?_) (λ p1=>?_)<;>simp at p1
 ·have wk:IntKind.i64.wrap ((k:Int)+1)=(k:Int)+1:=IntWalk.i64_in _ (by have:=hbl;unfold maxLen at this;omega);obtain ⟨v,hv⟩:∃v,by_[k]=v:=⟨_,rfl⟩;have hvm:v∈by_:=hv ▸ Qj p1;have hvF:=hby v hvm;obtain ⟨ba',oa,rfl,_,hct,_⟩:=Go.Px.ints_at (hrd w1 st1.chg) (i:=k) (by simpa using p1);have hct:w1.cell? ⟨ba',oa+k,none⟩=some (.int .i64 (v:Nat)):=by rw[hct];simp[hv]
  obtain ⟨A,c,rfl,_⟩:=hF W (Chg.refl _ _);obtain ⟨A',c',e,hr⟩:=hF w1 st1.chg;injection e with e1 e2 e3;subst e1 e3;have hl:F[v]?=some F[v]:=Qb hvF;obtain ⟨b1,o1,a1,k1,rfl,_,r1,r2⟩:=hr v _ hl;unfold Zt.b17_1;simp -dsimp[go_sem,p1,hct,hvF,r1];refine Zi (Zqu (k:=0) st1 rfl hnT (ms:=F[v]) λ w' ws' s'=>?_) ?_
  ·obtain ⟨A2,c2,e,hr2⟩:=hF w' s'.chg;injection e with e1 e2 e3;subst e1 e3;obtain ⟨b2,o2,a2,k2,e4,_,q1,q2⟩:=hr2 v _ hl;injection e4 with e4;injection e4 with e5 e6;subst e5 e6;obtain ⟨A3,c3,e,hr3⟩:=hF W (Chg.refl _ _);injection e with e1 e2 e3;subst e1 e3;obtain ⟨b3,o3,a3,k3,e4,_,z1,z2⟩:=hr3 v _ hl;injection e4 with e4;injection e4 with e5 e6;subst e5 e6;have g1:=st1.chg.at z1 id;have g2:=s'.chg.at z1 id;rw[r1]at g1;rw[q1]at g2;injection g1 with g1;injection g1 with g1 _ g3;injection g2 with g2;injection g2 with g2 _ g4;subst g1 g2 g3 g4;exact q2
  rintro _ w2 ⟨cc,ws2,rfl,hb2,_,st2⟩;simp -dsimp[go_sem,wk];refine hC _ _ ⟨k+1,ws2,by simp,by omega,λ m=>?_,st2⟩ (by simp[iv];omega);rw[hb2,hb1,Qd p1,hv];constructor
  ·rintro ((h|⟨y,h1,h2⟩)|⟨h1,h2⟩)
   ·exact Or.inl h
   ·exact Or.inr ⟨y,Q0 _ h1,h2⟩
   ·exact Or.inr ⟨v,by simp,_,hl,h1,h2⟩
  ·rintro (h|⟨y,h1,l,h2,h3,h4⟩)
   ·exact Or.inl (Or.inl h)
   ·rcases Qk.1 h1 with h1|h1
    ·exact Or.inl (Or.inr ⟨y,h1,l,h2,h3,h4⟩)
    ·rw[Qg]at h1;subst h1;rw[hl]at h2;injection h2 with h2;subst h2;exact Or.inr ⟨h3,h4⟩
 ·have:k=by_.length:=by omega
  subst this;rw[Qm]at hb1;exact hgo w1 ws1 hb1 st1
end
end Go.Proofs.YtjibcckpehdbhaaGreatDoor
