/-
  Texts of this claim: Ft1, Tn1, Tm3, Tn2, Tn3, Tn4, GsV, Ft2, Ft3, Rl4.
-/
import Derived.Test.YtjibcckpehdbhaaGreatDoorY16
import Derived.Test.YtjibcckpehdbhaaGreatDoorY09
import Derived.Test.YtjibcckpehdbhaaGreatDoorY11
import Derived.Test.YtjibcckpehdbhaaGreatDoorY15
import Derived.Test.YtjibcckpehdbhaaGreatDoorY14
import Derived.Test.YtjibcckpehdbhaaGreatDoorY06
import Derived.Test.YtjibcckpehdbhaaGreatDoorY13
set_option maxHeartbeats 1000000
set_option linter.unusedSimpArgs false
set_option linter.unusedVariables false
set_option maxRecDepth 100000
namespace Go.Px.Cn
open Go.Px Go.Px.Scan
abbrev SKey:=Nat×Nat×List Nat
def setP (nT:Nat)(x:SKey):Ch:=setC x.1 x.2.1 nT x.2.2
def ptrP (x:SKey):Value := .pointer (some ⟨x.1,0,none⟩)
def Zh9 (nT:Nat)(K:List SKey):Nat:=(K.map λ x=>Zgm x.2.2 nT).sum
def fsL (sb:Nat)(gv:List Value)(nb N nT:Nat)(aB:Option Addr)(cB:Nat)(null:List Bool)(K:List SKey):List Ch :=
 boxC sb 317 (gv++[.slice (some ⟨nb,0,none⟩) N N,.slice aB K.length cB])::rowC 4 1 (some ⟨nb,0,none⟩) N N (null.map Value.bool)::rowC 74 1 aB K.length cB (K.map ptrP)::K.map (setP nT)
def nulI (null:List Bool)(x:Int):Bool:=null.getD x.toNat false
theorem Zvz {nT:Nat}{K:List SKey}{i:Nat}{x:SKey}{ws':List Nat}(h:K[i]?=some x){c:Nat}(hc:Zgm ws' nT+c=Zgm x.2.2 nT):Zh9 nT (K.set i (x.1,x.2.1,ws'))+c=Zh9 nT K:=by
 unfold Zh9
 induction K generalizing i with
 | nil=>simp at h
 | cons y K ih=>
  cases i with
  | zero=>simp at h;subst h;simp;omega
  | succ i=>
   have:=ih (i:=i) (by simpa using h);simp only[Qa9,Qbu,Qdo];omega
theorem ZZ53 {K:List SKey}{i:Nat}{x:SKey}{ws':List Nat}(h:K[i]?=some x):(K.set i (x.1,x.2.1,ws')).map ptrP=K.map ptrP:=by
 rw[Qap];refine Qaw λ j=>?_;rw[Qaq];split
 ·rename_i e;subst e;have hl:=(Qa.1 h).1;rw[if_pos (by simpa using hl),Qh,h];rfl
 ·rfl
theorem ZZ63 {sb nb N nT cB:Nat}{gv:List Value}{aB:Option Addr}{null:List Bool}{K:List SKey}{i:Nat}{x:SKey}{ws':List Nat}(h:K[i]?=some x)(M:List Ch) :
  (fsL sb gv nb N nT aB cB null K++M).set (3+i) (setC x.1 x.2.1 nT ws')=fsL sb gv nb N nT aB cB null (K.set i (x.1,x.2.1,ws'))++M:=by
 have hl:=(Qa.1 h).1;unfold fsL;rw[ZZ53 h,Qau];rw[Qdb _ _ (by simp;omega)];rw[show 3+i=i+1+1+1 by omega,Qa9,Qa9,Qa9,Qap];rfl
theorem Zz1 {sb nb N nT cB:Nat}{gv:List Value}{aB:Option Addr}{null:List Bool}{K:List SKey}{i:Nat}{x:SKey}(h:K[i]?=some x)(M:List Ch) :
  (fsL sb gv nb N nT aB cB null K++M)[3+i]?=some (setC x.1 x.2.1 nT x.2.2):=by
 have hl:=(Qa.1 h).1;unfold fsL;rw[Qf (by simp;omega),show 3+i=i+1+1+1 by omega,Qbq,Qbq,Qbq,Qh,h];rfl
theorem Zq1 (nT:Nat)(K:List SKey):Zh9 nT K<=K.length*nT:=by
 unfold Zh9
 induction K with
 | nil=>simp
 | cons x K ih=>
  have:=Zl9 x.2.2 nT;simp only[Qbu,Qdo,Qb1,Qbw];omega
end Go.Px.Cn
namespace Go.Proofs.YtjibcckpehdbhaaGreatDoor
open Go.Px Go.Px.Scan Go.Px.Cn Go.RowKit
attribute [-go_sem] Builtin.append_ Zbl.b3 Zbl.b7_1 Zbl.b7_2
theorem Zma (a:Option Addr)(z:Value):Array.foldl (λ (cs:Array Value) (x:Value×Nat)=>cs.setIfInBounds x.snd x.fst) #[z] (Value.pointer a).cells.zipIdx 0 1=#[(Value.pointer a)]:=rfl
attribute [go_sem] Zma
theorem ZZ183 {W w:World}{M:List Ch}{sb nb N nT cB B i:Nat}{a1 a2 a3 a5:Value}{a4:Value}{aB:Option Addr}{null:List Bool}{K:List SKey}{x:SKey}{vr:Value}{row:List Int}
  (s:St noB W w (fsL sb [a1,a2,a3,a4,a5] nb N nT aB cB null K++M)) (hi:K[i]?=some x) (hN:null.length=N) (hKN:K.length=N) (hN1:N<=1000) (hT:0<nT) (hT1:nT<=100) (hD:Deb W)
  (hrow:(Zq rInt).at1 W B vr row) (hB:B<=W.heap.size) (hx:∀y∈row,0<=y/\y<N) :
  Ct Tryz.prog Zbl.id #[.pointer (some ⟨sb,0,none⟩),ptrP x,vr] w λ v w'=>∃(c:Nat) (K':List SKey),v = .tuple #[.int .i64 c,.bool (row.all (nulI null))]/\K'.length=K.length/\Zh9 nT K'+c=Zh9 nT K/\K'.map (·.1)=K.map (·.1)/\St noB W w' (fsL sb [a1,a2,a3,a4,a5] nb N nT aB cB null K'++M):=by
 refine Zbl.ct λ R hR=>?_;obtain ⟨A,cr,rfl,hl,hm,_⟩:=Zz hrow;have hfk:=Zq1 nT K;have hfk2:K.length*nT<=1000*100:=Qco (by omega) hT1;unfold Zbl.run;simp -dsimp[go_sem];refine Zbl.l6_intro _ _ _ _ _ _ _ _ (λ y z w'=>∃(c j:Nat) (K':List SKey) (x':SKey),y = .int .i64 c/\z = .int .i64 j/\j<=row.length/\K'.length=K.length/\K'[i]?=some x'/\x'.1=x.1/\Zh9 nT K'+c=Zh9 nT K/\K'.map (·.1)=K.map (·.1)/\(row.take j).all (nulI null)=true/\St noB W w' (fsL sb [a1,a2,a3,a4,a5] nb N nT aB cB null K'++M)) (λ _ z _=>row.length-iv z)
  ⟨0,0,K,x,rfl,rfl,Qy _,rfl,hi,rfl,rfl,rfl,rfl,s⟩ ?_
 rintro _ _ w1 ⟨c,j,K1,x1,rfl,rfl,hj,hK1,hx1,hx1e,hf1,hm1,hall,s1⟩ C hC;simp -dsimp[go_sem];refine Za (λ p1=>?_) (λ p1=>?_)<;>simp at p1
 ·have wj:IntKind.i64.wrap ((j:Int)+1)=(j:Int)+1:=Zcv p1 (by omega);obtain ⟨b,o,rfl,hb,ck,hin⟩:=Go.Px.ints_at (Rep.below hrow (s1.chg.below hB λ _ _=>id)) p1;have hxr:=hx row[j] (Qj p1);have et:row.take (j+1)=row.take j++[row[j]]:=Qd p1;obtain ⟨y,hy⟩:∃y,row[j]=y:=⟨_,rfl⟩;rw[hy]at ck hxr et;obtain ⟨n,rfl⟩:∃n:Nat,y=n:=⟨y.toNat,by omega⟩;have hnK:n<K1.length:=by omega
  obtain ⟨u,hu⟩:∃u,K1[n]?=some u:=⟨_,Qb hnK⟩;obtain ⟨y0,_,_⟩:=s1.box 0 (by unfold fsL;rfl);simp[Zw]at y0;obtain ⟨gp,eg,cg,_⟩:=s1.rowAt 2 (e:=74) (size:=1) (a:=aB) (n:=K1.length) (c:=cB) (xs:=K1.map ptrP) (by unfold fsL;rfl) (j:=n) (by simpa using hnK);rw[Q8,(Qa.1 hu).2]at cg;unfold ptrP at cg;have s2:St noB W (w1.alloc (.cells #[.pointer (some ⟨u.1,0,none⟩)] 74)) ((fsL sb [a1,a2,a3,a4,a5] nb N nT aB cB null K1++M)++[boxC w1.heap.size 74 [.pointer (some ⟨u.1,0,none⟩)]]):=s1.alloc #[.pointer (some ⟨u.1,0,none⟩)] 74;unfold Zbl.b7_2;simp -dsimp[go_sem,p1,ck,y0,hnK,eg,cg];generalize w1.alloc (.cells #[.pointer (some ⟨u.1,0,none⟩)] 74)=w2 at s2 |-;generalize w1.heap.size=ob at s2 |-;rw[Q5]at s2;have hct:=Zqp (ko:=(fsL sb [a1,a2,a3,a4,a5] nb N nT aB cB null K1++M).length) s2 (Zz1 hx1 _) (Zz1 hu _) (ob:=ob) (by rw[<-Q5,Qi (Ql _),Qam];rfl) (by omega) (by omega) hT hD;unfold ptrP;rw[<-hx1e];refine Zi hct ?_;rintro _ w3 ⟨c3,ws3,rfl,_,hf3,s3⟩;rw[ZZ63 hx1,<-Q5]at s3;have s4:=s3.take (fsL sb [a1,a2,a3,a4,a5] nb N nT aB cB null (K1.set i (x1.1,x1.2.1,ws3))++M).length;rw[Qde rfl]at s4;have hf4:=Zvz hx1 hf3;obtain ⟨z0,_,_⟩:=s4.box 0 (by unfold fsL;rfl);simp[Zw]at z0;have hnl:n<null.length:=by omega
  obtain ⟨gb,egb,cb,_⟩:=s4.rowAt 1 (e:=4) (size:=1) (a:=some ⟨nb,0,none⟩) (n:=N) (c:=N) (xs:=null.map Value.bool) (by unfold fsL;rfl) (j:=n) (by simpa using hnl);injection egb with egb;injection egb with egb;subst egb;rw[Q8]at cb;have wc:IntKind.i64.wrap ((c:Int)+(c3:Int))=((c+c3:Nat):Int):=by rw[show (c:Int)+(c3:Int)=((c+c3:Nat):Int) by omega];exact IntWalk.i64_in _ (by omega)
  have hnI:nulI null n=null[n]:=by unfold nulI;rw[Qax,Qc,Qb hnl];rfl
  have hnN:n<N:=by omega
  obtain ⟨nbv,hnbv⟩:∃t,null[n]=t:=⟨_,rfl⟩;rw[hnbv]at cb hnI;have hmap:(K1.set i (x1.1,x1.2.1,ws3)).map (·.1)=K.map (·.1):=by
   rw[<-hm1,Qap];refine Qaw λ a=>?_;rw[Qaq];split
   ·rename_i e;subst e;have hl:=(Qa.1 hx1).1;rw[if_pos (by simpa using hl),Qh,hx1];rfl
   ·rfl
  have hil:=(Qa.1 hx1).1;unfold Zbl.b7_1;rw[Ur_eq];rw[show (bins .add 3 (.tmp 17) (.tmp 27) (Value.int .i64 (c:Int)) (Value.int .i64 (c3:Int))).run Tryz.prog w3 = .ok (.int .i64 ((c+c3:Nat):Int)) w3 by rw[<-wc];simp -dsimp[go_sem],Zb2];simp -dsimp[go_sem,z0,hnN,cb]
  cases nbv with
  | false=>
   simp -dsimp[go_sem];refine hR _ _ ⟨c+c3,K1.set i (x1.1,x1.2.1,ws3),?_,by simpa using hK1,by omega,hmap,s4⟩;have:row.all (nulI null)=false:=by
    rw[Qdl];exact ⟨(n:Int),by rw[<-hy];exact Qj p1,by rw[hnI];simp⟩
   rw[this];simp
  | true=>
   simp -dsimp[go_sem,wj];refine hC _ _ _ ⟨c+c3,j+1,K1.set i (x1.1,x1.2.1,ws3),(x1.1,x1.2.1,ws3),by simp,by simp,by omega,by simpa using hK1,by rw[Qn hil],hx1e,by omega,hmap,?_,s4⟩ (by simp[iv];omega);rw[et,Qbn,hall];simp[hnI]
 ·have:j=row.length:=by omega
  subst this;rw[Qm]at hall;unfold Zbl.b3;exact hR _ _ ⟨c,K1,by rw[hall],hK1,hf1,hm1,s1⟩
end Go.Proofs.YtjibcckpehdbhaaGreatDoor
namespace Go.Px.Cn
open Go.Px Go.Px.Scan
structure BgAt (w:World)(bb:Nat)(cs:List Value)(nT mN cN mH cH:Nat)(ga:Nat->Nat)(null:List Bool)(hs:List (List Bool)):Prop where
 box:Zw w bb 0 (cs++[.slice (some ⟨mN,0,none⟩) null.length cN,.slice (some ⟨mH,0,none⟩) hs.length cH])
 nul:∀i (h:i<null.length),w.cell? ⟨mN,i,none⟩=some (.bool null[i])
 has:∀s,s<hs.length->w.cell? ⟨mH,s,none⟩=some (.slice (some ⟨ga s,0,none⟩) nT nT)/\∀t,t<nT->w.cell? ⟨ga s,t,none⟩=some (.bool ((hs.getD s []).getD t false))
theorem Zmk {nT:Nat}{null:List Bool}{has:List (List Bool)}:∀(a b:List Int) (u:Nat),fstB nT null has (a++b) u=(fstB nT null has a u || (a.all (vanS nT null) && fstB nT null has b u))
 | [],b,u=>by simp[fstB]
 | s::a,b,u=>by
  rw[List.cons_append,fstB,fstB,Zmk a b u,List.all_cons]
  cases (has.getD s.toNat []).getD u false<;>cases vanS nT null s<;>simp
theorem Zqn {nT:Nat}{null:List Bool}{has:List (List Bool)}(a:List Int)(s:Int)(u:Nat):fstB nT null has (a++[s]) u=(fstB nT null has a u || (a.all (vanS nT null) && (has.getD s.toNat []).getD u false)):=by
 rw[Zmk];congr 2;rw[fstB,fstB];simp
end Go.Px.Cn
namespace Go.Proofs.YtjibcckpehdbhaaGreatDoor
open Go.Px Go.Px.Scan Go.Px.Cn Go.RowKit
attribute [-go_sem] Builtin.append_ Zap.b3 Zap.b9 Zap.b12 Zap.b11_1 Zap.b11 Zh.b3 Zh.b9 Zh.b14 Zh.b13_1 Zh.b13 Zh.b20 Zh.b23_1 Zh.b23 Zh.b22_1 Zh.b22 Zh.b15 Zh.b11 Zcm.b1_1
section
variable {A1 A2 A3 A4:Option Addr} {c1 c2 c3 c4 n2 n3 n4 nT:Nat} {st:Int}
theorem Zks {w:World}{B m cN:Nat}{null:List Bool}{vr:Value}{row:List Int}(hnc:null.length<=cN)(hnul:∀i (h:i<null.length),w.cell? ⟨m,i,none⟩=some (.bool null[i]))(hrow:(Zq rInt).at1 w B vr row)(hB:B<=w.heap.size)(hT:nT<=65)(hN:null.length<=1000)(hms:∀x∈row,x<nT+null.length) :
  Ct Tryz.prog Zap.id #[.agg #[.slice A1 nT c1,.slice A2 n2 c2,.slice A3 n3 c3,.int .i64 st,.slice A4 n4 c4],.slice (some ⟨m,0,none⟩) null.length cN,vr] w λ v w'=>v = .bool (row.all (vanS nT null))/\Chg noB w w':=by
 refine Zap.ct λ R hR=>?_;obtain ⟨A,c,rfl,hl,hm,_⟩:=Zz hrow;have s1:=(St.refl noB w).alloc #[.slice A1 nT c1,.slice A2 n2 c2,.slice A3 n3 c3,.int .i64 st,.slice A4 n4 c4] 27;unfold Zap.run;simp -dsimp[go_sem];generalize w.alloc (.cells #[.slice A1 nT c1,.slice A2 n2 c2,.slice A3 n3 c3,.int .i64 st,.slice A4 n4 c4] 27)=w1 at s1 |-;generalize w.heap.size=q at s1 hB |-;refine Zap.l6_intro _ _ _ _ _ _ (λ y w'=>∃i:Nat,y = .int .i64 i/\i<=row.length/\(row.take i).all (vanS nT null)=true/\St noB w w' [boxC q 27 [.slice A1 nT c1,.slice A2 n2 c2,.slice A3 n3 c3,.int .i64 st,.slice A4 n4 c4]]) (λ y _=>row.length-iv y) ⟨0,rfl,by omega,by simp,s1⟩ ?_;rintro _ w2 ⟨i,rfl,hi,hall,s2⟩ C hC;have y2:=(s2.box 0 rfl).1.1;simp -dsimp[go_sem];refine Za (λ p1=>?_) (λ p1=>?_)<;>simp at p1
 ·have wi:IntKind.i64.wrap ((i:Int)+1)=(i:Int)+1:=Zcv p1 (by omega);obtain ⟨b,o,rfl,hb,ck,hin⟩:=Go.Px.ints_at (w:=w) (B:=B) hrow p1;have ck:=s2.chg.at ck id;have et:row.take (i+1)=row.take i++[row[i]]:=Qd p1;have hx:=hms row[i] (Qj p1);have s3:=s2.old ((Chg.refl noB w2).drew);have hno:vanS nT null row[i]=false->row.all (vanS nT null)=false:=λ h=>Qdl.2 ⟨_,Qj p1,by rw[h];simp⟩;unfold Zap.b11;simp -dsimp[go_sem,p1,ck,y2];refine Za (λ p2=>?_) (λ p2=>?_)<;>simp at p2
  ·have hok:vanS nT null row[i]=false:=by unfold vanS;rw[decide_eq_false (by omega)];rfl
   unfold Zap.b12;simp -dsimp[go_sem];exact hR _ _ ⟨by rw[hno hok],s3.chg⟩
  ·obtain ⟨j,hj⟩:∃j:Nat,row[i]-(nT:Int)=j:=⟨(row[i]-(nT:Int)).toNat,by omega⟩;have hjl:j<null.length:=by omega
   have wj:IntKind.i64.wrap (row[i]-(nT:Int))=(j:Int):=by rw[hj];exact IntWalk.i64_in _ (by omega)
   have cm:=s2.chg.at (hnul j hjl) id;have hok:vanS nT null row[i]=null[j]:=by
    unfold vanS;rw[decide_eq_true (by omega),hj,Qcm,Qax,Qc,Qb hjl];rfl
   unfold Zap.b11_1;simp -dsimp[go_sem,p1,ck,y2,wj,hjl,cm];unfold Zap.b12
   cases hb:null[j]with
   | true=>
    simp -dsimp[go_sem];unfold Zap.b9;simp -dsimp[go_sem,wi];exact hC _ _ ⟨i+1,by simp,by omega,by rw[et,Qbn,hall];simp[hok,hb],s3⟩ (by simp[iv];omega)
   | false=>
    simp -dsimp[go_sem];exact hR _ _ ⟨by rw[hno (hok.trans hb)],s3.chg⟩
 ·have:i=row.length:=by omega
  subst this;rw[Qm]at hall;unfold Zap.b3;exact hR _ _ ⟨by rw[hall],s2.chg⟩
end
attribute [-go_sem] Zr.b3 Zr.b14 Zr.b23 Zr.b26 Zr.b26_1 Zr.b25_1 Zr.b25 Zr.b18 Zr.b28 Zr.b27_1 Zr.b27 Zr.b9 Zr.b4 Zr.b1_1 Zr.b1_2
theorem Zdo {G:Nat->Prop}{W w:World}{L:List Ch}(s:St G W w L){k m N:Nat}{ms:List Bool}(hk:L[k]?=some (rowC 4 1 (some ⟨m,0,none⟩) N N (Zaz ms))){j:Nat}(hj:j<ms.length) :
  w.cell? ⟨m,j,none⟩=some (.bool ms[j])/\w.frozen? ⟨m,j,none⟩=false:=by
 obtain ⟨gm,em,cm,fm⟩:=s.rowAt k hk (j:=j) (by rw[Zex];exact hj);injection em with em;injection em with em;subst em;have:(Zaz ms)[j]'(by rw[Zex];exact hj) = .bool ms[j]:=by simp[Zaz]
 rw[this]at cm;exact ⟨cm,fm⟩
theorem Zfl {G:Nat->Prop}{W w:World}{L:List Ch}(s:St G W w L){k m N:Nat}{ms:List Bool}(hk:L[k]?=some (rowC 4 1 (some ⟨m,0,none⟩) N N (Zaz ms)))(j:Nat)(b:Bool) :
  St G W (w.setCell ⟨m,j,none⟩ (.bool b)) (L.set k (rowC 4 1 (some ⟨m,0,none⟩) N N (Zaz (ms.set j b)))):=by
 have s7:=s.setRow k hk j (.bool b);have e7:(Zaz ms).set j (.bool b)=Zaz (ms.set j b):=by simp[Zaz,Qap]
 rw[e7]at s7;exact s7
theorem Zxm {W w:World}{L0:List Ch}{o pb N:Nat}{ms0 out0:List Bool}{g:Gr}{p:Int×List Int×Int}{Ar:Option Addr}{cr q:Nat}{bx:List Value}{B:Nat}{x6:Value}{ag0:Bool}{n1:Option Addr×Nat}
  {R:EP} {C6:VP} {C11:Value->VP}
  (s:St noB W w [boxC q 27 (.slice n1.1 g.terms.length n1.2::bx),L0.headD Ch.emp,rowC 4 1 (some ⟨o,0,none⟩) N N (Zaz out0),boxC pb 103 [.int .i64 p.1,.slice Ar p.2.1.length cr,.int .i64 p.2.2]])
  (hN:out0.length=N) (hNm:N<=1000) (hT:g.terms.length<=65) (hr:(Zq rInt).at1 W B (.slice Ar p.2.1.length cr) p.2.1) (hB:B<=W.heap.size) (hrl:p.2.1.length<=maxLen) (hsn:SndM g.terms.length g.prods out0) (hx:∀x∈p.2.1,1<=x/\x<g.terms.length+N) (hpd:∀x∈p.2.1,Pd g.terms.length g.prods x)
  (hcnt:cntF out0+(if ag0 then 1 else 0)<=cntF ms0)
  (hgo:∀w' (ag':Bool) (out':List Bool),out'.length=N->SndM g.terms.length g.prods out'->cntF out'+(if ag' then 1 else 0)<=cntF ms0->St noB W w' [boxC q 27 (.slice n1.1 g.terms.length n1.2::bx),L0.headD Ch.emp,rowC 4 1 (some ⟨o,0,none⟩) N N (Zaz out'),boxC pb 103 [.int .i64 p.1,.slice Ar p.2.1.length cr,.int .i64 p.2.2]]->Zr.b14 R C6 C11 (.bool ag') x6 w') :
  Zr.b18 R C6 C11 (.pointer (some ⟨q,0,none⟩)) (.slice (some ⟨o,0,none⟩) N N) (.bool ag0) x6 (.pointer (some ⟨pb,0,none⟩)) w:=by
 unfold Zr.b18;refine Zr.l20_intro _ _ _ _ _ _ _ _ _ _ (λ x y w'=>∃(ag:Bool) (k:Nat) (out:List Bool),x = .bool ag/\y = .int .i64 k/\k<=p.2.1.length/\out.length=N/\SndM g.terms.length g.prods out/\cntF out+(if ag then 1 else 0)<=cntF ms0/\St noB W w' [boxC q 27 (.slice n1.1 g.terms.length n1.2::bx),L0.headD Ch.emp,rowC 4 1 (some ⟨o,0,none⟩) N N (Zaz out),boxC pb 103 [.int .i64 p.1,.slice Ar p.2.1.length cr,.int .i64 p.2.2]]) (λ _ y _=>p.2.1.length-iv y)
  ⟨ag0,0,out0,rfl,rfl,by omega,hN,hsn,hcnt,s⟩ ?_
 rintro _ _ w1 ⟨ag,k,out,rfl,rfl,hk,hl,hsn1,hcnt1,s1⟩ C hC;have hup:∀w' (ag':Bool) (out':List Bool),out'.length=N->SndM g.terms.length g.prods out'->cntF out'+(if ag' then 1 else 0)<=cntF ms0->k<p.2.1.length->St noB W w' [boxC q 27 (.slice n1.1 g.terms.length n1.2::bx),L0.headD Ch.emp,rowC 4 1 (some ⟨o,0,none⟩) N N (Zaz out'),boxC pb 103 [.int .i64 p.1,.slice Ar p.2.1.length cr,.int .i64 p.2.2]]->Zr.b23 R C6 C11 C (.bool ag') (.int .i64 k) w':=by
  intro w' ag' out' h1 h2 h3 h4 h5;have wk:IntKind.i64.wrap ((k:Int)+1)=(k:Int)+1:=IntWalk.i64_in _ (by unfold maxLen at hrl;omega);unfold Zr.b23;simp -dsimp[go_sem,wk];exact hC _ _ _ ⟨ag',k+1,out',rfl,by simp,by omega,h1,h2,h3,h5⟩ (by simp[iv];omega)
 have y1:=(s1.box 0 rfl).1.1;have z1:=(s1.box 3 rfl).1.2.1;simp -dsimp[go_sem,z1];refine Za (λ p1=>?_) (λ p1=>?_)<;>simp at p1
 ·have s2:=s1.old ((Chg.refl noB w1).drew);obtain ⟨b,of,rfl,hb,ck,hin⟩:=Go.Px.ints_at (Rep.below hr (s1.chg.below hB λ _ _=>id)) p1;have hxk:=hx p.2.1[k] (Qj p1);have hpk:=hpd p.2.1[k] (Qj p1);obtain ⟨s0,hs0⟩:∃s0,p.2.1[k]=s0:=⟨_,rfl⟩;rw[hs0]at ck hxk hpk;have ws:IntKind.i64.wrap (s0-(g.terms.length:Int))=s0-(g.terms.length:Int):=IntWalk.i64_in _ (by omega);unfold Zr.b25;simp -dsimp[go_sem,z1,p1,ck,y1,ws];refine Za (λ p2=>?_) (λ p2=>?_)<;>simp at p2
  ·obtain ⟨j,hj⟩:∃j:Nat,s0-(g.terms.length:Int)=j:=⟨(s0-(g.terms.length:Int)).toNat,by omega⟩;have hjl:j<N:=by omega
   obtain ⟨cm,fm⟩:=Zdo s2 (k:=2) rfl (ms:=out) (j:=j) (by omega);rw[hj];unfold Zr.b25_1;simp -dsimp[go_sem,hjl,cm];unfold Zr.b26
   cases hb':out[j]'(by omega) with
   | true=>
    simp -dsimp[go_sem];exact hup _ _ _ hl hsn1 hcnt1 p1 s2
   | false=>
    simp -dsimp[go_sem];unfold Zr.b26_1;simp -dsimp[go_sem,hjl,cm,fm];have s3:=Zfl s2 (k:=2) rfl (ms:=out) j true;have hcs:=Zht (ms:=out) (j:=j) (by omega) hb';exact hup _ true (out.set j true) (by simp[hl]) (hsn1.mark (by rw[<-hj,show (g.terms.length:Int)+(s0-(g.terms.length:Int))=s0 by omega];exact hpk)) (by cases ag<;>simp at hcnt1 |-<;>omega) p1 s3
  ·unfold Zr.b26;simp -dsimp[go_sem];exact hup _ _ _ hl hsn1 hcnt1 p1 s2
 ·exact hgo _ _ _ hl hsn1 hcnt1 s1
section
variable {A1 A2 A3 A4:Option Addr} {c1 c2 c3 c4 n2 n3 n4 nT mN cN mH cH bb o j:Nat} {ga:Nat->Nat} {st:Int} {G:Nat->Prop} {W w:World} {L:List Ch} {k B:Nat} {null r0:List Bool} {hs:List (List Bool)} {vr:Value} {row:List Int}
def LayRd (G:Nat->Prop)(W:World)(L:List Ch)(k bb o j nT mN cN mH cH:Nat)(ga:Nat->Nat)(cs:List Value)(null:List Bool)(hs:List (List Bool))(B:Nat)(vr:Value)(row:List Int):Prop :=
 ∀w' r',r'.length=nT->St G W w' (L.set k (rowC 4 1 (some ⟨o,0,none⟩) nT nT (Zaz r')))->BgAt w' bb cs nT mN cN mH cH ga null (hs.set j r')/\(Zq rInt).at1 w' B vr row
theorem ZZ130 (hk:L[k]?=some (rowC 4 1 (some ⟨o,0,none⟩) nT nT (Zaz r0)))
  (hrd:LayRd G W L k bb o j nT mN cN mH cH ga [.slice A1 nT c1,.slice A2 n2 c2,.slice A3 n3 c3,.int .i64 st,.slice A4 n4 c4] null hs B vr row)
  (hT:nT<=65) {s gs:Nat} {ri li:List Bool} {i:Nat} {fr0:Bool} {R:EP} {C6:Value->VP} {x1:Value}
  (hs':s<hs.length) (hri:ri.length=nT) (hli:(hs.set j ri).getD s []=li) (hjs:s=j->∀u,li.getD u false=ri.getD u false)
  (hgs:∀w' r',r'.length=nT->St G W w' (L.set k (rowC 4 1 (some ⟨o,0,none⟩) nT nT (Zaz r')))->∀t,t<nT->w'.cell? ⟨gs,t,none⟩=some (.bool (((hs.set j r').getD s []).getD t false)))
  (s1:St G W w (L.set k (rowC 4 1 (some ⟨o,0,none⟩) nT nT (Zaz ri)))) (hfr:fr0=false->ri=r0) (hcnt:cntF ri+(if fr0 then 1 else 0)<=cntF r0)
  (hgo:∀w' (fr:Bool) r',r'.length=nT->(∀u,u<nT->r'.getD u false=(ri.getD u false || li.getD u false))->(fr=false->r'=r0)->cntF r'+(if fr then 1 else 0)<=cntF r0->St G W w' (L.set k (rowC 4 1 (some ⟨o,0,none⟩) nT nT (Zaz r'))) ->
   Zh.b13 R C6 (.pointer (some ⟨bb,0,none⟩)) x1 (.bool fr) (.int .i64 i) w') :
  Zh.b15 R C6 (.pointer (some ⟨bb,0,none⟩)) x1 (.slice (some ⟨o,0,none⟩) nT nT) (.bool fr0) (.int .i64 i) (.slice (some ⟨gs,0,none⟩) nT nT) w:=by
 unfold Zh.b15;have hkl:=(Qa.1 hk).1;refine Zh.l17_intro _ _ _ _ _ _ _ _ _ _ (λ x y w'=>∃(fr:Bool) (t:Nat) (r:List Bool),x = .bool fr/\y = .int .i64 t/\t<=nT/\r.length=nT/\(∀u,u<nT->r.getD u false=if u<t then ri.getD u false || li.getD u false else ri.getD u false)/\(fr=false->r=r0)/\cntF r+(if fr then 1 else 0)<=cntF r0/\St G W w' (L.set k (rowC 4 1 (some ⟨o,0,none⟩) nT nT (Zaz r)))) (λ _ y _=>nT-iv y)
  ⟨fr0,0,ri,rfl,rfl,by omega,hri,λ u hu=>by simp,hfr,hcnt,s1⟩ ?_
 rintro _ _ w2 ⟨fr,t,r,rfl,rfl,ht,hr,hru,hfr2,hcnt2,s2⟩ C hC;have wt:=wS t (by omega);simp -dsimp[go_sem];refine Za (λ p1=>?_) (λ p1=>?_)<;>simp at p1
 ·have hlt:=hgs w2 r hr s2 t p1;have e1:((hs.set j r).getD s []).getD t false=li.getD t false:=by
   by_cases e:s=j
   ·rw[hjs e t];subst e;rw[Qc (l:=hs.set s r),Qn hs'];have:=hru t p1;rw[if_neg (by omega)]at this;exact this
   ·rw[<-hli];rw[Qc (l:=hs.set j r),Qc (l:=hs.set j ri),Qs (Ne.symm e),Qs (Ne.symm e)]
  rw[e1]at hlt;obtain ⟨co,fo⟩:=Zdo s2 (k:=k) (by rw[Qn hkl]) (ms:=r) (j:=t) (by omega);have hrt:r[t]'(by omega)=ri.getD t false:=by
   have:=hru t p1;rw[if_neg (by omega),Qc,Qb (by omega)]at this;exact this
  rw[hrt]at co;obtain ⟨rb,hrt2⟩:∃b,ri.getD t false=b:=⟨_,rfl⟩;obtain ⟨lb,hl⟩:∃b,li.getD t false=b:=⟨_,rfl⟩;rw[hrt2]at co;rw[hl]at hlt;have hup:∀w' (fr':Bool) r',r'.length=nT->(∀u,u<nT->r'.getD u false=if u<t+1 then ri.getD u false || li.getD u false else ri.getD u false)->(fr'=false->r'=r0)->cntF r'+(if fr' then 1 else 0)<=cntF r0->St G W w' (L.set k (rowC 4 1 (some ⟨o,0,none⟩) nT nT (Zaz r')))->Zh.b20 R C6 C (.bool fr') (.int .i64 t) w':=by
   intro w' fr' r' h1 h2 h3 h4 h5;unfold Zh.b20;simp -dsimp[go_sem,wt];exact hC _ _ _ ⟨fr',t+1,r',rfl,by simp,by omega,h1,h2,h3,h4,h5⟩ (by simp[iv];omega)
  have hkeep:(li.getD t false=true->ri.getD t false=true)->∀u,u<nT->r.getD u false=if u<t+1 then ri.getD u false || li.getD u false else ri.getD u false:=by
   intro h u hu;rw[hru u hu];by_cases e:u=t
   ·subst e;rw[if_neg (by omega),if_pos (by omega)]
    cases h2:li.getD u false with
    | true=>rw[h h2];rfl
    | false=>rw[Qdc]
   ·by_cases e2:u<t
    ·rw[if_pos e2,if_pos (by omega)]
    ·rw[if_neg e2,if_neg (by omega)]
  unfold Zh.b22;simp -dsimp[go_sem,p1,hlt]
  cases lb with
  | false=>
   simp -dsimp[go_sem];unfold Zh.b23;simp -dsimp[go_sem];exact hup _ _ _ hr (hkeep λ h=>by rw[hl]at h;cases h) hfr2 hcnt2 s2
  | true=>
   simp -dsimp[go_sem];unfold Zh.b22_1;simp -dsimp[go_sem,p1,co];unfold Zh.b23
   cases rb with
   | true=>
    simp -dsimp[go_sem];exact hup _ _ _ hr (hkeep λ h=>hrt2) hfr2 hcnt2 s2
   | false=>
    simp -dsimp[go_sem];unfold Zh.b23_1;simp -dsimp[go_sem,p1,co,fo];have s3:=Zfl s2 (k:=k) (by rw[Qn hkl]) (ms:=r) t true;rw[Qbe]at s3;have hcs:=Zht (ms:=r) (j:=t) (by omega) (by rw[hrt,hrt2]);refine hup _ true (r.set t true) (by simp[hr]) (λ u hu=>?_) (λ h=>by cases h) (by cases fr<;>simp at hcnt2 |-<;>omega) s3;by_cases e:u=t
    ·subst e;rw[if_pos (by omega),hl,Qc,Qn (by omega)];simp
    ·rw[Qc,Qs (Ne.symm e),<-Qc,hru u hu];by_cases e2:u<t
     ·rw[if_pos e2,if_pos (by omega)]
     ·rw[if_neg e2,if_neg (by omega)]
 ·have hte:t=nT:=by omega
  subst hte;exact hgo _ _ _ hr (λ u hu=>by rw[hru u hu,if_pos hu]) hfr2 hcnt2 s2
end
section
variable {A1 A2 A3 A4:Option Addr} {c1 c2 c3 c4 n2 n3 n4 nT mN cN mH cH bb o j:Nat} {ga:Nat->Nat} {st:Int} {G:Nat->Prop} {W w:World} {L:List Ch} {k B:Nat} {null r0:List Bool} {hs:List (List Bool)} {vr:Value} {row:List Int}
theorem ZZ3 (hk:L[k]?=some (rowC 4 1 (some ⟨o,0,none⟩) nT nT (Zaz r0)))(s:St G W w L)
  (hrd:LayRd G W L k bb o j nT mN cN mH cH ga [.slice A1 nT c1,.slice A2 n2 c2,.slice A3 n3 c3,.int .i64 st,.slice A4 n4 c4] null hs B vr row)
  (hr0:r0.length=nT) (hj:∀h:j<hs.length,hs[j]=r0) (hnc:null.length<=cN) (hhc:hs.length<=cH) (hT:nT<=65) (hN:null.length<=1000) (hx:∀x∈row,0<=x/\x<hs.length/\x<nT+null.length) :
  Ct Tryz.prog Zh.id #[.pointer (some ⟨bb,0,none⟩),vr,.slice (some ⟨o,0,none⟩) nT nT] w λ v w'=>∃(fr:Bool) (r':List Bool),v = .bool fr/\r'.length=nT/\(∀u,u<nT->r'.getD u false=(r0.getD u false || fstB nT null hs row u))/\(fr=false->r'=r0)/\cntF r'+(if fr then 1 else 0)<=cntF r0 /\
   St G W w' (L.set k (rowC 4 1 (some ⟨o,0,none⟩) nT nT (Zaz r'))):=by
 refine Zh.ct λ R hR=>?_;have hkl:=(Qa.1 hk).1;have hLk:L.set k (rowC 4 1 (some ⟨o,0,none⟩) nT nT (Zaz r0))=L:=by
  rw[<-(Qa.1 hk).2,Qai]
 have s0:St G W w (L.set k (rowC 4 1 (some ⟨o,0,none⟩) nT nT (Zaz r0))):=by rw[hLk];exact s
 obtain ⟨A,c,rfl,hl,hm,_⟩:=Zz (hrd w r0 hr0 s0).2;unfold Zh.run;simp -dsimp[go_sem];refine Zh.l6_intro _ _ _ _ _ _ _ (λ x y w'=>∃(fr:Bool) (i:Nat) (r:List Bool),x = .bool fr/\y = .int .i64 i/\i<=row.length/\r.length=nT/\(row.take i).all (vanS nT null)=true/\(∀u,u<nT->r.getD u false=(r0.getD u false || fstB nT null hs (row.take i) u))/\(fr=false->r=r0)/\cntF r+(if fr then 1 else 0)<=cntF r0/\St G W w' (L.set k (rowC 4 1 (some ⟨o,0,none⟩) nT nT (Zaz r)))) (λ _ y _=>row.length-iv y)
  ⟨false,0,r0,rfl,rfl,by omega,hr0,by simp,λ u hu=>by simp[fstB],by simp,by simp,s0⟩ ?_
 rintro _ _ w2 ⟨fr,i,ri,rfl,rfl,hi,hri,hall,hru,hfr,hcnt,s2⟩ C hC;simp -dsimp[go_sem];refine Za (λ p1=>?_) (λ p1=>?_)<;>simp at p1
 ·have wi:IntKind.i64.wrap ((i:Int)+1)=(i:Int)+1:=Zcv p1 (by omega);obtain ⟨hbg,hrow⟩:=hrd w2 ri hri s2;obtain ⟨b,of,rfl,hb,ck,hin⟩:=Go.Px.ints_at hrow p1;have hxi:=hx row[i] (Qj p1);have et:row.take (i+1)=row.take i++[row[i]]:=Qd p1;have edr:row=row.take i++row[i]::row.drop (i+1):=by rw[<-List.drop_eq_getElem_cons p1,Qag]
  obtain ⟨x,hxe⟩:∃x,row[i]=x:=⟨_,rfl⟩;rw[hxe]at ck hxi et edr;obtain ⟨sx,hsx⟩:∃n:Nat,x=n:=⟨x.toNat,by omega⟩;subst hsx;have hsl:sx<hs.length:=by omega
  have hsl':sx<(hs.set j ri).length:=by simpa using hsl
  obtain ⟨hgc,hgt⟩:=hbg.has sx hsl';have s3:=s2.old ((Chg.refl noB w2).drew);have hfst:∀u,fstB nT null hs (row.take (i+1)) u=(fstB nT null hs (row.take i) u || (hs.getD sx []).getD u false):=λ u=>by
   rw[et,Zqn,hall,Qcm];rfl
  have hjs:sx=j->∀u,((hs.set j ri).getD sx []).getD u false=ri.getD u false:=λ e u=>by
   subst e;rw[Qc (l:=hs.set sx ri),Qn hsl];rfl
  have hlo:∀u,u<nT->(ri.getD u false || ((hs.set j ri).getD sx []).getD u false)=(r0.getD u false || fstB nT null hs (row.take (i+1)) u):=λ u hu=>by
   rw[hfst u];by_cases e:sx=j
   ·rw[hjs e u,Bool.or_self,hru u hu];subst e;have h9:hs.getD sx []=r0:=by
     have:=hj hsl;rw[Qc,Qb hsl,this];rfl
    rw[h9];cases r0.getD u false<;>cases fstB nT null hs (row.take i) u<;>rfl
   ·rw[Qc (l:=hs.set j ri),Qs (Ne.symm e),<-Qc,hru u hu,Bool.or_assoc]
  have hgs:∀w' r',r'.length=nT->St G W w' (L.set k (rowC 4 1 (some ⟨o,0,none⟩) nT nT (Zaz r')))->∀t,t<nT->w'.cell? ⟨ga sx,t,none⟩=some (.bool (((hs.set j r').getD sx []).getD t false)):=by
   intro w' r' h1 h2;exact ((hrd w' r' h1 h2).1.has sx (by simpa using hsl)).2
  have bx:=hbg.box;simp[Zw]at bx;unfold Zh.b11;simp -dsimp[go_sem,p1,ck,bx,hsl,hgc];refine ZZ130 hk hrd hT hsl hri rfl hjs hgs s3 hfr hcnt λ w3 fr3 r3 h1 h2 h3 h4 s4=>?_;have h2':∀u,u<nT->r3.getD u false=(r0.getD u false || fstB nT null hs (row.take (i+1)) u):=λ u hu=>by rw[h2 u hu,hlo u hu]
  obtain ⟨hbg4,hrow4⟩:=hrd w3 r3 h1 s4;obtain ⟨b4,of4,e4,_,ck4,_⟩:=Go.Px.ints_at hrow4 p1;injection e4 with e4;injection e4 with e4a e4b;subst e4a e4b;rw[hxe]at ck4;have bx4:=hbg4.box;simp[Zw]at bx4;have s5:=s4.old ((Chg.refl noB w3).drew);have hstop:vanS nT null sx=false->∀u,u<nT->r3.getD u false=(r0.getD u false || fstB nT null hs row u):=λ hv u hu=>by
   rw[h2' u hu,et]
   conv=>rhs;rw[edr,Zmk,fstB,hv,Bool.false_and,Qdc]
   rw[Zqn]
  unfold Zh.b13;simp -dsimp[go_sem,p1,ck4,bx4];refine Za (λ p2=>?_) (λ p2=>?_)<;>simp at p2
  ·have hv:vanS nT null sx=false:=by unfold vanS;rw[decide_eq_false (by omega)];rfl
   unfold Zh.b14;simp -dsimp[go_sem];unfold Zh.b3;exact hR _ _ ⟨fr3,r3,rfl,h1,hstop hv,h3,h4,s5⟩
  ·have hjn:(sx:Int)-(nT:Int)=((sx-nT:Nat):Int):=by omega
   have hjl:sx-nT<null.length:=by omega
   have wj:IntKind.i64.wrap ((sx:Int)-(nT:Int))=((sx-nT:Nat):Int):=by rw[hjn];exact IntWalk.i64_in _ (by omega)
   have cm:=hbg4.nul _ hjl;obtain ⟨nb,hnb⟩:∃b,null[sx-nT]=b:=⟨_,rfl⟩;rw[hnb]at cm;have hok:vanS nT null sx=nb:=by
    unfold vanS;rw[decide_eq_true (by omega),hjn,Qcm,Qax,Qc,Qb hjl,hnb];rfl
   unfold Zh.b13_1;simp -dsimp[go_sem,p1,ck4,bx4,wj,hjl,cm];unfold Zh.b14
   cases nb with
   | true=>
    simp -dsimp[go_sem];unfold Zh.b9;simp -dsimp[go_sem,wi];exact hC _ _ _ ⟨fr3,i+1,r3,rfl,by simp,by omega,h1,by rw[et,Qbn,hall];simp[hok],h2',h3,h4,s5⟩ (by simp[iv];omega)
   | false=>
    simp -dsimp[go_sem];unfold Zh.b3;exact hR _ _ ⟨fr3,r3,rfl,h1,hstop hok,h3,h4,s5⟩
 ·have:i=row.length:=by omega
  subst this;rw[Qm]at hru;unfold Zh.b3;exact hR _ _ ⟨fr,ri,rfl,hri,hru,hfr,hcnt,s2⟩
theorem Of_ct {W w:World}(hW:Chg noB W w)(hb:∀w',Chg noB W w'->BgAt w' bb [.slice A1 nT c1,.slice A2 n2 c2,.slice A3 n3 c3,.int .i64 st,.slice A4 n4 c4] nT mN cN mH cH ga null hs)
  (hrow:(Zq rInt).at1 w B vr row) (hB:B<=w.heap.size) (hnc:null.length<=cN) (hhc:hs.length<=cH) (hT:nT<=65) (hN:null.length<=1000) (hx:∀x∈row,0<=x/\x<hs.length/\x<nT+null.length) :
  Ct Tryz.prog Zcm.id #[.pointer (some ⟨bb,0,none⟩),vr] w λ v w'=>∃(o:Nat) (out:List Bool),v = .tuple #[.slice (some ⟨o,0,none⟩) nT nT,.bool (row.all (vanS nT null))]/\out.length=nT/\(∀u,u<nT->out.getD u false=fstB nT null hs row u)/\St noB w w' [rowC 4 1 (some ⟨o,0,none⟩) nT nT (Zaz out)]:=by
 refine Zcm.ct λ R hR=>?_;have hb':∀w',Chg noB w w'->BgAt w' bb [.slice A1 nT c1,.slice A2 n2 c2,.slice A3 n3 c3,.int .i64 st,.slice A4 n4 c4] nT mN cN mH cH ga null hs:=λ w' hc=>hb w' (hW.trans hc);have bx:=(hb' w (Chg.refl _ _)).box;simp[Zw]at bx;have s1:=(St.refl noB w).lit 4 1 nT (Array.replicate nT (Value.bool false)) (by unfold maxLen;omega) (by simp);have e0:(Array.replicate nT (Value.bool false)).toList=Zaz (List.replicate nT false):=by simp[Zaz]
 rw[e0]at s1;have hmk:=Zg2 w nT (by unfold Zaf;omega);generalize w.alloc (.cells (Array.replicate nT (Value.bool false)) 4)=w1 at s1 hmk;generalize how:w.heap.size=o at s1 hmk hB;unfold Zcm.run;simp -dsimp[go_sem,bx,hmk];have hset:hs.set hs.length (List.replicate nT false)=hs:=List.set_eq_of_length_le (Ql _);refine Zi (ZZ3 (L:=[rowC 4 1 (some ⟨o,0,none⟩) nT nT (Zaz (List.replicate nT false))]) (k:=0) (G:=noB) (W:=w) (j:=hs.length) (bb:=bb) (mN:=mN) (cN:=cN) (mH:=mH) (cH:=cH) (null:=null) (hs:=hs) (ga:=ga) (B:=B) (row:=row) (A1:=A1) (c1:=c1) (A2:=A2) (c2:=c2) (n2:=n2) (A3:=A3) (c3:=c3) (n3:=n3) (A4:=A4) (c4:=c4) (n4:=n4) (st:=st) rfl s1 (λ w' r' h1 h2=>?_) (by simp) (λ h=>absurd h (Qbo _)) hnc hhc hT hN hx) ?_
 ·rw[List.set_eq_of_length_le (Ql _)];exact ⟨hb' w' h2.chg,Rep.below hrow (h2.chg.below (by omega) λ _ _=>id)⟩
 ·rintro _ w2 ⟨fr,out,rfl,hlo,hu,_,_,s2⟩;have s2:St noB w w2 [rowC 4 1 (some ⟨o,0,none⟩) nT nT (Zaz out)]:=s2;have hb2:=hb' w2 s2.chg;have bx2:=hb2.box;simp[Zw]at bx2;unfold Zcm.b1_1;simp -dsimp[go_sem,bx2];have s3:=s2.old ((Chg.refl noB w2).drew);have hb3:=hb' _ s3.chg;refine Zi (Zks hnc hb3.nul (Rep.below hrow (s3.chg.below (by omega) λ _ _=>id)) (by have:=s3.chg.size;omega) hT hN λ x hx'=>(hx x hx').2.2) ?_;rintro _ w3 ⟨rfl,hc3⟩;refine hR _ _ ⟨o,out,rfl,hlo,λ u hu'=>?_,s3.old hc3⟩;rw[hu u hu',Qc,Qa4,if_pos hu'];simp
end
end Go.Proofs.YtjibcckpehdbhaaGreatDoor
namespace Go.Px.Cn
open Go.Px Go.Px.Scan
def ClN (nT:Nat)(null:List Bool)(p:Int×List Int×Int):Prop:=p.2.1.all (vanS nT null)=true->vanS nT null p.1=true
def SndN (nT:Nat)(P:Prs)(null:List Bool):Prop:=∀s,vanS nT null s=true->Nul P s
theorem SndN.none (nT:Nat)(P:Prs)(N:Nat):SndN nT P (List.replicate N false):=λ s h=>by
 unfold vanS at h;rw[Qc,Qa4]at h;split at h<;>simp at h
theorem SndN.put {nT:Nat}{P:Prs}{ms:List Bool}(h:SndN nT P ms){i j:Nat}(hi:i<P.length)(hj:P[i].1-(nT:Int)=j)(hfit:P[i].2.1.all (vanS nT ms)=true):SndN nT P (ms.set j true):=λ s hs=>by
 by_cases e:s=P[i].1
 ·subst e;have e1:lft P i=P[i].1:=by unfold lft;rw[Qc,Qb hi];rfl
  have e2:rgt P i=P[i].2.1:=by unfold rgt;rw[Qc,Qb hi];rfl
  rw[<-e1];exact .mk hi λ x hx=>h x (Qar.1 hfit x (by rw[<-e2];exact hx))
 ·refine h s ?_;unfold vanS at hs |-;rw[Qad,decide_eq_true_eq]at hs |-;refine ⟨hs.1,?_⟩;have:=hs.2;rwa [Qc,Qs (by omega),<-Qc]at this
end Go.Px.Cn
namespace Go.Proofs.YtjibcckpehdbhaaGreatDoor
open Go.Px Go.Px.Scan Go.Px.Cn Go.RowKit
attribute [-go_sem] Builtin.append_ Zbe.b3 Zbe.b13 Zbe.b12_1 Zbe.b12_2 Zbe.b12_3 Zbe.b9 Zbe.b4
theorem ZZ93 {w:World}{B:Nat}{vg:Value}{g:Gr}(hg:Zb7.atN w B vg g)(hB:B<=w.heap.size)(hcl:Zbn g) :
  Ct Tryz.prog Zbe.id #[vg] w λ v w'=>∃m ms,v = .slice (some ⟨m,0,none⟩) ms.length ms.length/\ms.length=g.nons.length/\St noB w w' [rowC 4 1 (some ⟨m,0,none⟩) ms.length ms.length (Zaz ms)]/\(∀p∈g.prods,ClN g.terms.length ms p)/\SndN g.terms.length g.prods ms:=by
 refine Zbe.ct λ R hR=>?_;obtain ⟨A1,c1,A2,c2,A3,c3,A4,c4,rfl,⟨m1,m2,m3,m4⟩,hst,hc0,hgr⟩:=Zbg hg hB;have hr4:(Zq rPr).at1 w B (.slice A4 g.prods.length c4) g.prods:=by obtain ⟨_,_,_,_,_,_,_,_,e,_,_,_,_,h5,_⟩:=(Zcg hg).ex;injection e with e;injection e with e;simp at e;rw[e.2.2.2.1,e.2.2.2.2];exact h5
 have hT:=hcl.syms.t1;have hN:=hcl.syms.n1;have s1:=(St.refl noB w).alloc (gQ A1 c1 A2 c2 A3 c3 A4 c4 g) 27;unfold Zbe.run;simp -dsimp[go_sem];generalize w.alloc (.cells (gQ A1 c1 A2 c2 A3 c3 A4 c4 g) 27)=w1 at s1 hc0 hgr |-;generalize w.heap.size=q at s1 hgr |-;have y1:=(hgr w1 (Chg.refl _ _)).k;have s2:=s1.lit 4 1 g.nons.length (Array.replicate g.nons.length (Value.bool false)) (by unfold maxLen;omega) (by simp);simp -dsimp[go_sem,y1,Zg2 w1 g.nons.length (by unfold Zaf;omega)];have e0:(Array.replicate g.nons.length (Value.bool false)).toList=Zaz (List.replicate g.nons.length false):=by simp[Zaz]
 rw[e0]at s2;generalize w1.alloc (.cells (Array.replicate g.nons.length (Value.bool false)) 4)=w2 at s2 |-;generalize w1.heap.size=m at s2 |-;obtain ⟨N,hNe⟩:∃N,g.nons.length=N:=⟨_,rfl⟩;simp only[gQ,gU]at s2 hg;rw[hNe]at s2 hg |-;obtain ⟨CB,hCB⟩:∃CB,boxC q 27 [.slice A1 g.terms.length c1,.slice A2 N c2,.slice A3 g.levels.length c3,.int .i64 g.start,.slice A4 g.prods.length c4]=CB:=⟨_,rfl⟩;have s2':St noB w w2 [CB,rowC 4 1 (some ⟨m,0,none⟩) N N (Zaz (List.replicate N false))]:=by rw[<-hCB];exact s2
 let J:Value->World->Nat->Prop:=λ y w' f=>∃(ag:Bool) (ms:List Bool),y = .bool ag/\ms.length=N/\(ag=false->∀p∈g.prods,ClN g.terms.length ms p)/\St noB w w' [CB,rowC 4 1 (some ⟨m,0,none⟩) N N (Zaz ms)]/\SndN g.terms.length g.prods ms/\f=2*cntF ms+(if ag then 1 else 0)
 unfold Zbe.b4;refine Zbe.l6_intro _ _ _ _ _ (λ y w'=>∃f,J y w' f) (λ y w'=>muOf (J y) w') ⟨_,true,List.replicate N false,rfl,by simp,by simp,s2',SndN.none _ _ _,rfl⟩ ?_;rintro y3 w3 hJ C hC;have hJm:=Zfy hJ;have hfin:∀y4 w4 f,J y4 w4 f->f<muOf (J y3) w3->C y4 w4:=λ y4 w4 f h1 h2=>hC _ _ ⟨f,h1⟩ (Qbd (Zfw h1) h2);obtain ⟨ag,ms0,rfl,hl0,hag,s3,hsn,hf⟩:=hJm;rw[hf]at hfin;clear hf hC hJ s2 s2'
 cases ag with
 | false=>
  simp -dsimp[go_sem];unfold Zbe.b3;exact hR _ _ ⟨m,ms0,by rw[hl0],hl0.trans hNe.symm,by rw[hl0];exact s3.pick [1] (by simp) rfl,hag rfl,hsn⟩
 | true=>
 simp -dsimp[go_sem];unfold Zbe.b9;refine Zbe.l11_intro _ _ _ _ _ _ _ (λ x y w'=>∃(ag:Bool) (i:Nat) (ms:List Bool),x = .bool ag/\y = .int .i64 i/\i<=g.prods.length/\ms.length=N/\(ag=false->∀p∈g.prods.take i,ClN g.terms.length ms p)/\St noB w w' [CB,rowC 4 1 (some ⟨m,0,none⟩) N N (Zaz ms)]/\cntF ms+(if ag then 1 else 0)<=cntF ms0/\SndN g.terms.length g.prods ms) (λ _ y _=>g.prods.length-iv y)
  ⟨false,0,ms0,rfl,rfl,by omega,hl0,by simp,s3,by simp,hsn⟩ ?_
 rintro _ _ w4 ⟨ag,i,ms,rfl,rfl,hi,hl,hcl4,s4,hcnt,hsn4⟩ D hD;have wi:IntKind.i64.wrap ((i:Int)+1)=(i:Int)+1:=IntWalk.i64_in _ (by have:=hcl.prods.c1;omega);have y4:=s4.box 0 (by rw[<-hCB];rfl);simp[Zw]at y4;simp -dsimp[go_sem,y4];refine Za (λ p1=>?_) (λ p1=>?_)<;>simp at p1
 ·obtain ⟨b,o,vr,rfl,hb,x1,x2,x3,hr,_⟩:=Zcc (Rep.below hr4 (s4.chg.below hB λ _ _=>id)) p1;have hx:=hcl.syms' g.prods[i] (Qj p1);have et:g.prods.take (i+1)=g.prods.take i++[g.prods[i]]:=Qd p1;obtain ⟨j,hj⟩:∃j:Nat,g.prods[i].1-(g.terms.length:Int)=j:=⟨(g.prods[i].1-(g.terms.length:Int)).toNat,by omega⟩;have hjl:j<N:=by omega
  have wj:IntKind.i64.wrap (g.prods[i].1-(g.terms.length:Int))=(j:Int):=by rw[hj];exact IntWalk.i64_in _ (by omega)
  obtain ⟨nb,hnb⟩:∃b,ms[j]'(by omega)=b:=⟨_,rfl⟩;have hok:vanS g.terms.length ms g.prods[i].1=nb:=by
   unfold vanS;rw[decide_eq_true (by omega),hj,Qcm,Qax,Qc,Qb (by omega),hnb];rfl
  have hgo:∀w' (ag':Bool) (ms':List Bool),ms'.length=N->(ag'=false->∀p∈g.prods.take (i+1),ClN g.terms.length ms' p)->St noB w w' [CB,rowC 4 1 (some ⟨m,0,none⟩) N N (Zaz ms')]->cntF ms'+(if ag' then 1 else 0)<=cntF ms0->SndN g.terms.length g.prods ms'->Zbe.b13 R C D (.bool ag') (.int .i64 i) w':=by
   intro w' ag' ms' h1 h2 h3 h4 h5;unfold Zbe.b13;simp -dsimp[go_sem,wi];exact hD _ _ _ ⟨ag',i+1,ms',rfl,by simp,by omega,h1,h2,h3,h4,h5⟩ (by simp[iv];omega)
  obtain ⟨Ar,cr,rfl,hrl,hrm,_⟩:=Zz hr;obtain ⟨cm,fm⟩:=Zdo s4 (k:=1) rfl (ms:=ms) (j:=j) (by omega);rw[hnb]at cm;have s5:=s4.old ((Chg.refl noB w4).drew);unfold Zbe.b12_3;simp -dsimp[go_sem,y4,p1,x1,x2,x3,wj,hjl,cm];have hadd:(ag=false->ClN g.terms.length ms g.prods[i])->ag=false->∀p∈g.prods.take (i+1),ClN g.terms.length ms p:=by
   intro h0 h p hp;rw[et]at hp;rcases Qk.1 hp with hp|hp
   ·exact hcl4 h p hp
   ·simp at hp;subst hp;exact h0 h
  cases nb with
  | true=>
   simp -dsimp[go_sem];exact hgo _ ag ms hl (hadd λ _ _=>hok) s5 hcnt hsn4
  | false=>
   simp -dsimp[go_sem];unfold Zbe.b12_2;simp -dsimp[go_sem,y4,p1,x1,x2,x3];have s5:=s5.old ((Chg.refl noB w4.drew).drew);have hrd:=Rep.below hr ((Chg.refl noB w4).drew.drew.below (by have:=s4.chg.size;omega) λ _ _=>id);have hct:=Zks (A1:=A1) (nT:=g.terms.length) (c1:=c1) (A2:=A2) (n2:=N) (c2:=c2) (A3:=A3) (n3:=g.levels.length) (c3:=c3) (st:=g.start) (A4:=some ⟨b,o,none⟩) (n4:=g.prods.length) (c4:=c4) (w:=w4.drew.drew) (m:=m) (cN:=N) (null:=ms) (row:=g.prods[i].2.1) (by omega) (λ i h=>(Zdo s5 (k:=1) rfl (ms:=ms) (j:=i) h).1) hrd (by have:=s5.chg.size;omega) hT (by omega) (λ x hx2=>by have:=(hx.2 x hx2).2;omega);rw[hl]at hct;refine Zi hct ?_;rintro _ w6 ⟨rfl,hc6⟩;have s6:=s5.old hc6
   cases hfit:g.prods[i].2.1.all (vanS g.terms.length ms) with
   | false=>
    simp -dsimp[go_sem];exact hgo _ ag ms hl (hadd λ _ h=>by rw[hfit]at h;cases h) s6 hcnt hsn4
   | true=>
    obtain ⟨cm6,fm6⟩:=Zdo s6 (k:=1) rfl (ms:=ms) (j:=j) (by omega);simp -dsimp[go_sem];unfold Zbe.b12_1;simp -dsimp[go_sem,hjl,cm6,fm6];have s7:=Zfl s6 (k:=1) rfl (ms:=ms) j true;have hcs:=Zht (ms:=ms) (j:=j) (by omega) hnb;exact hgo _ true (ms.set j true) (by simp[hl]) (λ h=>by cases h) s7 (by cases ag<;>simp at hcnt |-<;>omega) (hsn4.put p1 hj hfit)
 ·have hie:i=g.prods.length:=by omega
  subst hie;rw[Qm]at hcl4;refine hfin _ _ _ ⟨ag,ms,rfl,hl,hcl4,s4,hsn4,rfl⟩ ?_;cases ag<;>simp at hcnt |-<;>omega
theorem ZZ77 (x y:Int)(w:World):Ct Tryz.prog cmp_Less_int.id #[.int .i64 x,.int .i64 y] w λ r w'=>r = .bool (decide (x<y))/\w=w':=by
 have nan:∀(x:Int) (w:World),Ct Tryz.prog cmp_isNaN_int.id #[.int .i64 x] w λ r w'=>r = .bool false/\w=w':=by
  intro x w;refine cmp_isNaN_int.ct λ R hR=>?_;unfold cmp_isNaN_int.run;simp -dsimp[go_sem];exact hR _ _ ⟨by simp,rfl⟩
 refine cmp_Less_int.ct λ R hR=>?_;unfold cmp_Less_int.run;simp -dsimp[go_sem];refine Zi (nan x w) ?_;rintro _ _ ⟨rfl,rfl⟩;simp -dsimp[go_sem];exact hR _ _ ⟨rfl,rfl⟩
theorem Zp6 {w:World}{B:Nat}{v:Value}{l:List Int}(h:(Zq rInt).at1 w B v l)(hB:B<=w.heap.size) :
  Ct Tryz.prog Zbf.id #[v] w λ r w'=>r = .bool (decide (l.Pairwise (·<=·)))/\Chg noB w w':=by
 refine Zbf.ct λ R hR=>?_;obtain ⟨A,c,rfl,hl,hm,_⟩:=Zz h;have key:l.Pairwise (·<=·)↔∀i (hi:i+1<l.length),l[i]<=l[i+1]:=by
  constructor
  ·intro hp i hi;exact Qt.1 hp i (i+1) (by omega) hi (by omega)
  ·intro hp;refine Qt.2 λ i j hi hj hij=>?_;have:∀d (hd:i+d<l.length),l[i]<=l[i+d]:=by
    intro d
    induction d with
    | zero=>intro _;exact Qdu _
    | succ d ih=>intro hd;exact Int.le_trans (ih (by omega)) (hp (i+d) hd)
   have h9:=this (j-i) (by omega);simpa[show i+(j-i)=j by omega]using h9
 unfold Zbf.run;have wl:IntKind.i64.wrap ((l.length:Int)-1)=(l.length:Int)-1:=IntWalk.i64_in _ (by unfold maxLen at hm;omega);simp -dsimp[go_sem,wl];refine Zbf.l6_intro _ _ _ _ (λ y w1=>∃k:Int,y = .int .i64 k/\k<l.length/\(∀i (hi:i+1<l.length),k<(i:Int)+1->l[i]<=l[i+1])/\Chg noB w w1) (λ y _=>iv y) ⟨_,rfl,by omega,λ i hi h9=>by omega,Chg.refl _ _⟩ ?_;rintro _ w1 ⟨k,rfl,hk,hall,hcw⟩ C hC;simp -dsimp[go_sem];refine Za (λ h2=>?_) (λ h2=>?_)<;>simp at h2
 ·obtain ⟨n,rfl⟩:∃n:Nat,k=(n:Int)+1:=⟨(k-1).toNat,by omega⟩;have hn1:n+1<l.length:=by omega
  obtain ⟨b1,o1,rfl,hb1,hc1,hr1⟩:=Go.Px.ints_at (Rep.below h (hcw.below hB λ _ _=>id)) hn1;obtain ⟨b2,o2,e2,hb2,hc2,hr2⟩:=Go.Px.ints_at (Rep.below h (hcw.below hB λ _ _=>id)) (show n<l.length by omega);injection e2 with e2;injection e2 with e2 e3;subst e2 e3;have wk:IntKind.i64.wrap ((n:Int)+1-1)=(n:Int):=by rw[show (n:Int)+1-1=n by omega];exact IntWalk.i64_in _ (by unfold maxLen at hm;omega)
  have hn0:n<l.length:=by omega
  have q1:(0:Int)<=(n:Int)+1:=by omega
  have q2:(n:Int)+1<l.length:=by omega
  have wk':IntKind.i64.wrap (n:Int)=(n:Int):=IntWalk.i64_in _ (by unfold maxLen at hm;omega);simp -dsimp[go_sem,q1,q2,hn0,hc1,hc2,wk'];refine Zi (ZZ77 _ _ _) ?_;rintro _ _ ⟨rfl,rfl⟩;refine Za (λ h3=>?_) (λ h3=>?_)<;>simp at h3
  ·refine hR _ _ ⟨?_,hcw.drew⟩;congr 1;refine (decide_eq_false λ hp=>?_).symm;have:=key.1 hp n hn1;omega
  ·simp -dsimp[go_sem,wk'];refine hC _ _ ⟨n,rfl,by omega,λ i hi h9=>?_,hcw.drew⟩ (by simp[iv]);by_cases e:i=n
   ·subst e;exact h3
   ·exact hall i hi (by omega)
 ·simp -dsimp[go_sem];refine hR _ _ ⟨?_,hcw⟩;congr 1;exact (decide_eq_true (key.2 λ i hi=>hall i hi (by omega))).symm
theorem Zxo {w:World}{B:Nat}{v:Value}{g:Gr}(h:Zb7.atN w B v g)(hB:B<=w.heap.size):Ct Tryz.prog Zev.id #[v] w λ r w'=>r = .bool (Zn2 g)/\Chg noB w w':=by
 refine Zev.ct λ R hR=>?_;obtain ⟨A1,c1,A2,c2,A3,c3,A4,c4,rfl,h1,h2,h3,h4,h5,⟨l1,m1⟩,⟨l2,m2⟩,⟨l3,m3⟩,⟨l4,m4⟩⟩:=(Zcg h).ex;have no:∀w',Chg noB w w'->¬Zrf g->R (.returned (.bool false)) w':=λ w' hc hn=>hR _ _ ⟨by rw[Zeg Zgh hn],hc⟩;unfold Zev.run;simp -dsimp[go_sem];have h0:=(St.refl noB w).alloc (gQ A1 c1 A2 c2 A3 c3 A4 c4 g) 27;have hb1:=h0.chg.below hB λ _ _=>id;have hB1:B<=(w.alloc (.cells (gQ A1 c1 A2 c2 A3 c3 A4 c4 g) 27)).heap.size:=by have:=h0.chg.size;omega
 generalize w.heap.size=q at h0 |-;generalize w.alloc (.cells (gQ A1 c1 A2 c2 A3 c3 A4 c4 g) 27)=w1 at h0 hb1 hB1 |-;refine Zi (Zlk (Zx h hb1) hB1 (a:=0) (by omega)) ?_;rintro _ w2 ⟨rfl,hc2⟩;have hst2:=h0.old hc2;have k2:=hst2.box 0 rfl;simp[Zw]at k2
 cases hs:symB g 0 with
 | false=>
  simp -dsimp[go_sem];refine no _ hst2.chg λ hv=>?_;rw[Zgg.2 hv.syms]at hs;cases hs
 | true=>
  have hsP:=Zgg.1 hs;simp -dsimp[go_sem,k2];have hb2:=hst2.chg.below (B:=B) (by omega) λ _ _=>id;refine Zi (Zgw (Zx h hb2) (by have:=hc2.size;omega) (a:=0) (by omega) hsP) ?_;rintro _ w3 ⟨⟨vl,rfl,hl⟩,hc3⟩;have hst3:=hst2.old hc3;simp -dsimp[go_sem]
  cases hp:Zvr g 0 with
  | false=>
   simp -dsimp[go_sem];refine no _ hst3.chg λ hv=>?_;rw[Zew.2 hv.prods]at hp;cases hp
  | true=>
   have hpP:=Zew.1 hp;have hl':=hl hp;rw[Qdj]at hl';simp -dsimp[go_sem];refine Zi (Zp6 hl' (Ql _)) ?_;rintro _ w4 ⟨rfl,hc4⟩;refine hR _ _ ⟨?_,hst3.chg.trans hc4⟩;congr 1;refine Zig ?_;rw[decide_eq_true_iff,Zgh];exact ⟨λ hs=>⟨hsP,hpP,hs⟩,λ hv=>hv.sorted⟩
attribute [-go_sem] Zaj.b4 Zaj.b15 Zaj.b18_1 Zaj.b18 Zaj.b17_1 Zaj.b17_2 Zaj.b17 Zaj.b10 Zaj.b5 Zaj.b22_1 Zaj.b22_2 Zaj.b19
theorem ZZ154:Tryz.prog.underlying 158=some (.slice 74):=Tryz.underlying158
theorem iFSet:(Tryz.prog.info? 74).map (λ i=>(i.zero,i.size,i.bytes))=some (some (.pointer none),1,8):=by kernel_rfl
section
variable {W:World} {sb q nb N nT:Nat} {A1 A2 A3 A4:Option Addr} {c1 c2 c3 c4 n2 n3 n4:Nat} {st:Int}
theorem ZZ25 {w:World}{null:List Bool}{R:EP}(hN:null.length=N)(hT:0<nT)(hT1:nT<=100)(hTN:nT<=N)(hN1:N<=1000)(hD:Deb W)
  (hq:∀w',Chg noB W w'->Zw w' q 0 [.slice A1 nT c1,.slice A2 n2 c2,.slice A3 n3 c3,.int .i64 st,.slice A4 n4 c4])
  (s:St noB W w (fsL sb [.slice A1 nT c1,.slice A2 n2 c2,.slice A3 n3 c3,.int .i64 st,.slice A4 n4 c4] nb N nT none 0 null []))
  (hgo:∀w' aB cB K,K.length=N->St noB W w' (fsL sb [.slice A1 nT c1,.slice A2 n2 c2,.slice A3 n3 c3,.int .i64 st,.slice A4 n4 c4] nb N nT aB cB null K)->Zaj.b5 R (.pointer (some ⟨q,0,none⟩)) (.pointer (some ⟨sb,0,none⟩)) w') :
  Zaj.b19 R (.pointer (some ⟨q,0,none⟩)) (.int .i64 N) (.pointer (some ⟨sb,0,none⟩)) w:=by
 unfold Zaj.b19;refine Zaj.l21_intro _ _ _ _ _ _ (λ y w'=>∃(i:Nat) (aB:Option Addr) (cB:Nat) (K:List SKey),y = .int .i64 i/\i<=N/\K.length=i/\St noB W w' (fsL sb [.slice A1 nT c1,.slice A2 n2 c2,.slice A3 n3 c3,.int .i64 st,.slice A4 n4 c4] nb N nT aB cB null K)) (λ y _=>N-iv y)
  ⟨0,none,0,[],rfl,Qy _,rfl,s⟩ ?_
 rintro _ w1 ⟨i,aB,cB,K,rfl,hi,hK,s1⟩ C hC;simp -dsimp[go_sem];refine Za (λ p1=>?_) (λ p1=>?_)<;>simp at p1
 ·have wi:=wS i (by omega);obtain ⟨y0,_,l0⟩:=s1.box 0 (by unfold fsL;rfl);have yq:=hq w1 s1.chg;have lq:q<w1.heap.size:=by simp[Zw]at yq;exact World.block_lt_of_cell? w1 _ yq.1
  simp[Zw]at y0 yq;have s2:St noB W (w1.alloc (.cells #[.int .i64 (i:Int)] 3)).drew ((fsL sb [.slice A1 nT c1,.slice A2 n2 c2,.slice A3 n3 c3,.int .i64 st,.slice A4 n4 c4] nb N nT aB cB null K)++[boxC w1.heap.size 3 [.int .i64 (i:Int)]]):=(s1.alloc #[.int .i64 (i:Int)] 3).old (Chg.refl noB _).drew;unfold Zaj.b22_2;simp -dsimp[go_sem,y0,yq,l0,lq];generalize (w1.alloc (.cells #[.int .i64 (i:Int)] 3)).drew=w2 at s2 |-;generalize w1.heap.size=ob at s2 |-;refine Zi (Ztw (ms:=[(i:Int)]) s2.chg (by omega) λ w' hc=>?_) ?_
  ·obtain ⟨y,_,_⟩:=(s2.old hc).box (fsL sb [.slice A1 nT c1,.slice A2 n2 c2,.slice A3 n3 c3,.int .i64 st,.slice A4 n4 c4] nb N nT aB cB null K).length (b:=ob) (t:=3) (cs:=[.int .i64 (i:Int)]) (by rw[Qi (Ql _),Qam];rfl);simp[Zw]at y;exact Zzu y ⟨by omega,by omega⟩
  rintro _ w3 ⟨b,g,ws,rfl,_,s3⟩;have s4:=(s2.take (fsL sb [.slice A1 nT c1,.slice A2 n2 c2,.slice A3 n3 c3,.int .i64 st,.slice A4 n4 c4] nb N nT aB cB null K).length);rw[Qde rfl]at s4;have s5:=s4.seq s3;have z0:=(s5.box 0 (by unfold fsL;rfl));obtain ⟨z0,zf,lz⟩:=z0;simp[Zw]at z0;unfold Zaj.b22_1;simp -dsimp[go_sem,z0,lz];refine s5.append1 2 (e:=74) (size:=1) (a0:=aB) (n:=K.length) (c:=cB) (xs:=K.map ptrP) (by unfold fsL;rfl) ZZ154 iFSet rfl (by decide) (news:=[.pointer (some ⟨b,0,none⟩)]) rfl (by simp[Value.oneCell']) (by unfold maxLen;omega) (by unfold Zaf;omega) ?_;intro gB cap w4 s6;obtain ⟨u0,uf,_⟩:=s6.box 0 (by unfold fsL;rfl);simp[Zw]at u0;have uf6:=uf 6;have s7:=s6.set 0 (by unfold fsL;rfl) 6 (.slice (some ⟨gB,0,none⟩) (K.length+1) cap);simp -dsimp[go_sem,u0,uf6,wi];refine hC _ _ ⟨i+1,some ⟨gB,0,none⟩,cap,K++[(b,g,ws)],by simp,by omega,by simp[hK],?_⟩ (by simp[iv];omega);have e:((fsL sb [.slice A1 nT c1,.slice A2 n2 c2,.slice A3 n3 c3,.int .i64 st,.slice A4 n4 c4] nb N nT aB cB null K++[setC b g nT ws]).set 2 (rowC 74 1 (some ⟨gB,0,none⟩) (K.length+1) cap (K.map ptrP++[.pointer (some ⟨b,0,none⟩)]))).set 0 (boxC sb 317 ([Value.slice A1 nT c1,.slice A2 n2 c2,.slice A3 n3 c3,.int .i64 st,.slice A4 n4 c4,.slice (some ⟨nb,0,none⟩) N N,.slice aB K.length cB].set 6 (.slice (some ⟨gB,0,none⟩) (K.length+1) cap)))=fsL sb [.slice A1 nT c1,.slice A2 n2 c2,.slice A3 n3 c3,.int .i64 st,.slice A4 n4 c4] nb N nT (some ⟨gB,0,none⟩) cap null (K++[(b,g,ws)]):=by
   unfold fsL;rw[Qu,Qu,Qq];rfl
  rw[<-e];exact s7
 ·exact hgo _ aB cB K (by omega) s1
end
end Go.Proofs.YtjibcckpehdbhaaGreatDoor
namespace Go.Px.Cn
open Go.Px Go.Px.Scan
def ClA (null:List Bool)(p:Int×List Int×Int):Prop:=p.2.1.all (nulI null)=true->nulI null p.1=true
structure SndA (nT:Nat)(P:Prs)(null:List Bool):Prop where
 nul:∀i:Nat,null.getD i false=true->Nul P (i:Int)
 low:∀i:Nat,i<nT->null.getD i false=false
theorem SndA.none (nT:Nat)(P:Prs)(N:Nat):SndA nT P (List.replicate N false):=by
 have h:∀i,(List.replicate N false).getD i false=false:=λ i=>by
  rw[Qc,Qa4];split<;>rfl
 exact ⟨λ i hi=>(by rw[h]at hi;cases hi),λ i _=>h i⟩
theorem Zqw {null:List Bool}{j i:Nat}(hj:j<null.length):(null.set j true).getD i false=(null.getD i false || decide (i=j)):=by
 rw[Qc,Qc];by_cases e:i=j
 ·subst e;rw[Qn hj];simp
 ·rw[Qs (Ne.symm e),decide_eq_false e,Qdc]
theorem SndA.put {nT:Nat}{P:Prs}{null:List Bool}(h:SndA nT P null){i j:Nat}(hi:i<P.length)(hj:P[i].1=(j:Int))(hjl:j<null.length)(hjT:nT<=j)(h0:∀s∈P[i].2.1,0<=s)(hfit:P[i].2.1.all (nulI null)=true):SndA nT P (null.set j true):=by
 refine ⟨λ a ha=>?_,λ a ha=>?_⟩
 ·rw[Zqw hjl,Qbl,decide_eq_true_eq]at ha;rcases ha with ha|rfl
  ·exact h.nul a ha
  ·have e1:lft P i=P[i].1:=by unfold lft;rw[Qc,Qb hi];rfl
   have e2:rgt P i=P[i].2.1:=by unfold rgt;rw[Qc,Qb hi];rfl
   rw[<-hj,<-e1];refine .mk hi λ x hx=>?_;rw[e2]at hx;have h1:=Qar.1 hfit x hx;have h2:=h0 x hx;have:=h.nul x.toNat h1;rwa [show ((x.toNat:Nat):Int)=x by omega]at this
 ·rw[Zqw hjl,h.low a ha,decide_eq_false (by omega)];rfl
end Go.Px.Cn
namespace Go.Proofs.YtjibcckpehdbhaaGreatDoor
open Go.Px Go.Px.Scan Go.Px.Cn Go.RowKit
attribute [-go_sem] Builtin.append_ Zaj.b4 Zaj.b15 Zaj.b18_1 Zaj.b18 Zaj.b17_1 Zaj.b17_2 Zaj.b17 Zaj.b10 Zaj.b5 Zaj.b22_1 Zaj.b22_2 Zaj.b19
section
variable {W:World} {sb q nb N nT B:Nat} {A1 A2 A3 A4:Option Addr} {c1 c2 c3 c4 n2 n3:Nat} {st:Int}
theorem Zwo {w:World}{aB:Option Addr}{cB:Nat}{K:List SKey}{P:Prs}{R:EP}(hT:0<nT)(hT1:nT<=100)(hTN:nT<=N)(hN1:N<=1000)(hD:Deb W)(hB:B<=W.heap.size)(hPl:P.length<=1000)
  (hq:∀w',Chg noB W w'->Zw w' q 0 [.slice A1 nT c1,.slice A2 n2 c2,.slice A3 n3 c3,.int .i64 st,.slice A4 P.length c4])
  (hr4:(Zq rPr).at1 W B (.slice A4 P.length c4) P) (hsy:∀p∈P,((nT:Int)<=p.1/\p.1<N)/\∀x∈p.2.1,0<=x/\x<N) (hK:K.length=N)
  (s:St noB W w (fsL sb [.slice A1 nT c1,.slice A2 n2 c2,.slice A3 n3 c3,.int .i64 st,.slice A4 P.length c4] nb N nT aB cB (List.replicate N false) K))
  (hgo:∀w' null K,K.length=N->null.length=N->(∀p∈P,ClA null p)->SndA nT P null->St noB W w' (fsL sb [.slice A1 nT c1,.slice A2 n2 c2,.slice A3 n3 c3,.int .i64 st,.slice A4 P.length c4] nb N nT aB cB null K)->R (.returned (.pointer (some ⟨sb,0,none⟩))) w') :
  Zaj.b5 R (.pointer (some ⟨q,0,none⟩)) (.pointer (some ⟨sb,0,none⟩)) w:=by
 let gv:List Value:=[.slice A1 nT c1,.slice A2 n2 c2,.slice A3 n3 c3,.int .i64 st,.slice A4 P.length c4]
 let J:Value->World->Nat->Prop:=λ y w' f=>∃(fr:Nat) (null:List Bool) (K:List SKey),y = .int .i64 fr/\K.length=N/\null.length=N/\(fr=0->∀p∈P,ClA null p)/\SndA nT P null/\St noB W w' (fsL sb gv nb N nT aB cB null K)/\f=2*(Zh9 nT K+cntF null)+(if 0<fr then 1 else 0)
 unfold Zaj.b5;refine Zaj.l7_intro _ _ _ _ _ (λ y w'=>∃f,J y w' f) (λ y w'=>muOf (J y) w') ⟨_,1,List.replicate N false,K,rfl,hK,by simp,by simp,SndA.none _ _ _,s,rfl⟩ ?_;rintro y3 w3 hJ C hC;have hJm:=Zfy hJ;have hfin:∀y4 w4 f,J y4 w4 f->f<muOf (J y3) w3->C y4 w4:=λ y4 w4 f h1 h2=>hC _ _ ⟨f,h1⟩ (Qbd (Zfw h1) h2);obtain ⟨fr,null0,K0,rfl,hK0,hn0,hcl0,hsn0,s3,hf⟩:=hJm;rw[hf]at hfin;clear hf hC hJ s;have hbK:∀K:List SKey,K.length=N->Zh9 nT K<=100000:=λ K h=>by
  have:=Zq1 nT K;have h2:K.length*nT<=1000*100:=Qco (by omega) hT1;omega
 have hbN:∀null:List Bool,null.length=N->cntF null<=1000:=λ null h=>by
  have:cntF null<=null.length:=List.countP_le_length;omega
 simp -dsimp[go_sem];refine Za (λ p0=>?_) (λ p0=>?_)<;>simp at p0
 ·have yq:=hq w3 s3.chg;simp[Zw]at yq;unfold Zaj.b10;simp -dsimp[go_sem,yq];rw[if_pos p0]at hfin;refine Zaj.l12_intro _ _ _ _ _ _ _ _ (λ x y w'=>∃(fr i:Nat) (null:List Bool) (K:List SKey),x = .int .i64 fr/\y = .int .i64 i/\i<=P.length/\K.length=N/\null.length=N/\(fr=0->∀p∈P.take i,ClA null p)/\SndA nT P null/\St noB W w' (fsL sb gv nb N nT aB cB null K)/\fr+(Zh9 nT K+cntF null)=Zh9 nT K0+cntF null0) (λ _ y _=>P.length-iv y)
   ⟨0,0,null0,K0,rfl,rfl,Qy _,hK0,hn0,by simp,hsn0,s3,by omega⟩ ?_
  rintro _ _ w4 ⟨fr4,i,null,K,rfl,rfl,hi,hK,hn,hcl,hsn,s4,htot⟩ D hE;have hb1:=hbK K0 hK0;have hb2:=hbN null0 hn0;have wi:=wS i (by omega);simp -dsimp[go_sem];refine Za (λ p1=>?_) (λ p1=>?_)<;>simp at p1
  ·obtain ⟨b,o,vr,rfl,hb,x1,x2,x3,hr,hin,_⟩:=Zcc hr4 p1;have x1:=s4.chg.at x1 id;have x2:=s4.chg.at x2 id;have x3:=s4.chg.at x3 id;have hx:=hsy P[i] (Qj p1);have et:P.take (i+1)=P.take i++[P[i]]:=Qd p1;obtain ⟨j,hj⟩:∃j:Nat,P[i].1=j:=⟨P[i].1.toNat,by omega⟩;obtain ⟨lv,hlv⟩:∃l,P[i].2.2=l:=⟨_,rfl⟩;have hjN:j<N:=by omega
   have hjT:nT<=j:=by omega
   rw[hj]at x1;rw[hlv]at x3;obtain ⟨x,hxK⟩:∃x,K[j]?=some x:=⟨_,Qb (by omega)⟩;obtain ⟨Ar,cr,rfl,hrl,hrm,_⟩:=Zz hr;have s5:St noB W (w4.alloc (.cells #[.int .i64 j,.slice Ar P[i].2.1.length cr,.int .i64 lv] 103)).drew (fsL sb gv nb N nT aB cB null K++[boxC w4.heap.size 103 [.int .i64 j,.slice Ar P[i].2.1.length cr,.int .i64 lv]]):=(s4.alloc #[.int .i64 j,.slice Ar P[i].2.1.length cr,.int .i64 lv] 103).old (Chg.refl noB _).drew;obtain ⟨y0,_,l0⟩:=s4.box 0 (by unfold fsL;rfl);simp[Zw,gv]at y0;obtain ⟨gp,eg,cg,_⟩:=s4.rowAt 2 (e:=74) (size:=1) (a:=aB) (n:=K.length) (c:=cB) (xs:=K.map ptrP) (by unfold fsL;rfl) (j:=j) (by simp;omega);rw[Q8,(Qa.1 hxK).2]at cg;have lg:=World.block_lt_of_cell? w4 _ cg;unfold ptrP at cg;have hjK:j<K.length:=by omega
   unfold Zaj.b17;simp -dsimp[go_sem,p1,x1,x2,x3,y0,l0,hjK,eg,cg,lg];generalize (w4.alloc (.cells #[.int .i64 j,.slice Ar P[i].2.1.length cr,.int .i64 lv] 103)).drew=w5 at s5 |-;generalize w4.heap.size=pb at s5 |-;have hct:=ZZ183 s5 hxK hn hK hN1 hT hT1 hD hr hB (λ y hy=>hx.2 y hy);refine Zi hct ?_;rintro _ w6 ⟨c,K',rfl,hK',hfk,hid,s6⟩;have hK'N:K'.length=N:=by omega
   obtain ⟨u0,_,ul⟩:=s6.box 0 (by unfold fsL;rfl);obtain ⟨v0,_,vl⟩:=s6.box (fsL sb gv nb N nT aB cB null K').length (b:=pb) (t:=103) (cs:=[.int .i64 j,.slice Ar P[i].2.1.length cr,.int .i64 lv]) (by rw[Qi (Ql _),Qam];rfl);simp[Zw,gv]at u0 v0;have hb1:=hbK K0 hK0;have hb2:=hbN null0 hn0;have s7:=s6.take (fsL sb gv nb N nT aB cB null K').length;rw[Qde rfl]at s7;obtain ⟨F4,hF4⟩:∃n,fr4+c=n:=⟨_,rfl⟩;have wf:IntKind.i64.wrap ((fr4:Int)+(c:Int))=(F4:Int):=by rw[show (fr4:Int)+(c:Int)=(F4:Int) by omega];exact IntWalk.i64_in _ (by omega)
   have wf1:=wS F4 (by omega);have hadd:(F4=0->ClA null P[i])->F4=0->∀p∈P.take (i+1),ClA null p:=λ h0 h p hp=>by
    rw[et]at hp;rcases Qk.1 hp with hp|hp
    ·exact hcl (by omega) p hp
    ·simp at hp;subst hp;exact h0 h
   have hjn:j<null.length:=by omega
   have hnI:nulI null P[i].1=null[j]:=by unfold nulI;rw[hj,Qax,Qc,Qb hjn];rfl
   obtain ⟨cn,fn⟩:=Zdo s6 (k:=1) (m:=nb) (N:=N) (ms:=null) (by unfold fsL;rfl) hjn;obtain ⟨nbv,hnbv⟩:∃t,null[j]=t:=⟨_,rfl⟩;rw[hnbv]at cn hnI;have skip:∀w',St noB W w' (fsL sb gv nb N nT aB cB null K')->(F4=0->ClA null P[i])->Zaj.b15 R C D (.int .i64 (F4:Int)) (.int .i64 i) w':=λ w' s' h=>by
    unfold Zaj.b15;simp -dsimp[go_sem,wi];exact hE _ _ _ ⟨F4,i+1,null,K',rfl,by simp,by omega,hK'N,hn,hadd h,hsn,s',by omega⟩ (by simp[iv];omega)
   unfold Zaj.b17_2;simp -dsimp[go_sem,wf]
   cases hall:P[i].2.1.all (nulI null) with
   | false=>
    simp -dsimp[go_sem];unfold Zaj.b18;simp -dsimp[go_sem];exact skip _ (s7.old (Chg.refl noB w6).drew) (λ _ h=>by rw[hall]at h;cases h)
   | true=>
    simp -dsimp[go_sem];unfold Zaj.b17_1;simp -dsimp[go_sem,u0,v0,ul,vl,hjN,cn];unfold Zaj.b18
    cases nbv with
    | true=>
     simp -dsimp[go_sem];exact skip _ (s7.old (Chg.refl noB w6).drew) (λ _ _=>hnI)
    | false=>
     simp -dsimp[go_sem];unfold Zaj.b18_1;have s8:=(s6.old (Chg.refl noB w6).drew);simp -dsimp[go_sem,u0,v0,ul,vl,hjN,cn,fn,wf1];have s9:=(Zfl s7 (k:=1) (m:=nb) (N:=N) (ms:=null) (by unfold fsL;rfl) j true).old (Chg.refl noB _).drew;have hcs:=Zht (ms:=null) (j:=j) hjn hnbv;unfold Zaj.b15;simp -dsimp[go_sem,wi];refine hE _ _ _ ⟨F4+1,i+1,null.set j true,K',by simp,by simp,by omega,hK'N,by simpa using hn,λ h=>by omega,hsn.put p1 hj hjn hjT (λ s hs=>(hx.2 s hs).1) hall,?_,by omega⟩ (by simp[iv];omega);have e:(fsL sb gv nb N nT aB cB null K').set 1 (rowC 4 1 (some ⟨nb,0,none⟩) N N (Zaz (null.set j true)))=fsL sb gv nb N nT aB cB (null.set j true) K':=rfl;rw[<-e];exact s9.old (Chg.refl noB _).drew
  ·have:i=P.length:=by omega
   subst this;rw[Qm]at hcl;refine hfin _ _ _ ⟨fr4,null,K,rfl,hK,hn,hcl,hsn,s4,rfl⟩ ?_;split<;>omega
 ·have:fr=0:=by omega
  subst this;unfold Zaj.b4;exact hgo _ null0 K0 hK0 hn0 (hcl0 rfl) hsn0 s3
end
theorem bFs (a b c d m:Option Addr)(n1 n2 n3 n4 n5 d1 d2 d3 d4 d5:Nat)(x:Int)(w:World):(Instr.build 317 #[(0,.agg #[.slice a n1 d1,.slice b n2 d2,.slice c n3 d3,.int .i64 x,.slice d n4 d4]),(1,.slice m n5 d5)]).run Tryz.prog w = .ok (.agg #[.slice a n1 d1,.slice b n2 d2,.slice c n3 d3,.int .i64 x,.slice d n4 d4,.slice m n5 d5,.slice none 0 0]) w:=by simp[go_sem]
attribute [go_sem ↓] bFs
theorem ZZ177 {w:World}{B:Nat}{vg:Value}{g:Gr}(hg:Zb7.atN w B vg g)(hB:B<=w.heap.size)(hcl:Zbn g)(hD:Deb w) :
  Ct Tryz.prog Zaj.id #[vg] w λ v w'=>∃sb nb gv aB cB null K,v = .pointer (some ⟨sb,0,none⟩)/\gv.length=5/\null.length=g.terms.length+g.nons.length/\(∀p∈g.prods,ClA null p)/\SndA g.terms.length g.prods null/\St noB w w' (fsL sb gv nb (g.terms.length+g.nons.length) g.terms.length aB cB null K):=by
 refine Zaj.ct λ R hR=>?_;obtain ⟨A1,c1,A2,c2,A3,c3,A4,c4,rfl,⟨m1,m2,m3,m4⟩,hst,hc0,hgr⟩:=Zbg hg hB;have hr4:(Zq rPr).at1 w B (.slice A4 g.prods.length c4) g.prods:=by obtain ⟨_,_,_,_,_,_,_,_,e,_,_,_,_,h5,_⟩:=(Zcg hg).ex;injection e with e;injection e with e;simp at e;rw[e.2.2.2.1,e.2.2.2.2];exact h5
 have hT:=hcl.syms.t1;have hN:=hcl.syms.n1;have hPl:=hcl.prods.c1;have hT0:0<g.terms.length:=by
  have:=hcl.syms.t0
  cases h:g.terms with
  | nil=>rw[h]at this;cases this
  | cons x r=>simp
 have hsy:=hcl.syms';have s1:=(St.refl noB w).alloc (gQ A1 c1 A2 c2 A3 c3 A4 c4 g) 27;unfold Zaj.run;have y1:=(hgr _ (Chg.refl _ _)).k;have wN:IntKind.i64.wrap ((g.terms.length:Int)+(g.nons.length:Int))=((g.terms.length+g.nons.length:Nat):Int):=by rw[show (g.terms.length:Int)+(g.nons.length:Int)=((g.terms.length+g.nons.length:Nat):Int) by omega];exact IntWalk.i64_in _ (by omega)
 obtain ⟨N,hNe⟩:∃N,g.terms.length+g.nons.length=N:=⟨_,rfl⟩;rw[hNe]at wN;have hD1:=hD.chg s1.chg id;have hq:∀w',Chg noB (w.alloc (.cells (gQ A1 c1 A2 c2 A3 c3 A4 c4 g) 27)) w'->Zw w' w.heap.size 0 (gU A1 c1 A2 c2 A3 c3 A4 c4 g):=λ w' hc=>((s1.old hc).box 0 rfl).1;have hr4':=Rep.below hr4 (s1.chg.below hB λ _ _=>id);have hB1:B<=(w.alloc (.cells (gQ A1 c1 A2 c2 A3 c3 A4 c4 g) 27)).heap.size:=by have:=s1.chg.size;omega
 have hcw:=s1.chg;have lq:w.heap.size<(w.alloc (.cells (gQ A1 c1 A2 c2 A3 c3 A4 c4 g) 27)).heap.size:=by simp
 simp -dsimp[go_sem,y1,wN];clear s1 hgr hc0;generalize w.alloc (.cells (gQ A1 c1 A2 c2 A3 c3 A4 c4 g) 27)=w1 at hq hr4' hB1 hcw lq hD1 y1 |-;generalize w.heap.size=q at hq lq y1 |-;have s2:=(St.refl noB w1).lit 4 1 N (Array.replicate N (Value.bool false)) (by unfold maxLen;omega) (by simp);have e0:(Array.replicate N (Value.bool false)).toList=Zaz (List.replicate N false):=by simp[Zaz]
 rw[e0]at s2;simp -dsimp[go_sem,Zg2 w1.drew N (by unfold Zaf;omega),y1,lq];have s3:=(((s2.alloc #[.slice A1 g.terms.length c1,.slice A2 g.nons.length c2,.slice A3 g.levels.length c3,.int .i64 g.start,.slice A4 g.prods.length c4,.slice (some ⟨w1.heap.size,0,none⟩) N N,.slice none 0 0] 317).old (Chg.refl noB _).drew).nilRow 74 1);have e1:(w1.alloc (.cells (Array.replicate N (Value.bool false)) 4)).heap.size=w1.heap.size+1:=by simp
 rw[e1]at s3;generalize ((w1.alloc (.cells (Array.replicate N (Value.bool false)) 4)).alloc (.cells #[.slice A1 g.terms.length c1,.slice A2 g.nons.length c2,.slice A3 g.levels.length c3,.int .i64 g.start,.slice A4 g.prods.length c4,.slice (some ⟨w1.heap.size,0,none⟩) N N,.slice none 0 0] 317)).drew=w3 at s3 |-;generalize w1.heap.size+1=sb at s3 |-;generalize w1.heap.size=nb at s3 |-;have s4:St noB w1 w3 (fsL sb (gU A1 c1 A2 c2 A3 c3 A4 c4 g) nb N g.terms.length none 0 (List.replicate N false) []):=s3.pick [1,0,2] (by decide) rfl;refine ZZ25 (by simp) hT0 (by omega) (by omega) (by omega) hD1 hq s4 λ w4 aB cB K hK s5=>?_;refine Zwo hT0 (by omega) (by omega) (by omega) hD1 hB1 (by omega) hq hr4' (λ p hp=>?_) hK s5 λ w5 null K' hK' hn hclo hsn s6=>?_
 ·have:=hsy p hp;refine ⟨⟨this.1.1,by have:=this.1.2;omega⟩,λ x hx=>?_⟩;have:=this.2 x hx;omega
 ·refine hR _ _ ⟨sb,nb,(gU A1 c1 A2 c2 A3 c3 A4 c4 g),aB,cB,null,K',rfl,rfl,by rw[hNe];exact hn,hclo,hsn,?_⟩;rw[hNe];exact s6.lower hcw
theorem Zvk {w:World}{B:Nat}{v:Value}{g:Gr}(h:Zb7.atN w B v g)(hB:B<=w.heap.size)(hcl:Zbn g):Ct Tryz.prog Zd8.id #[v] w λ r w'=>r = .bool true/\Chg noB w w':=by
 refine Zd8.ct λ R hR=>?_;obtain ⟨A1,c1,A2,c2,A3,c3,A4,c4,rfl,⟨m1,m2,m3,m4⟩,hst,hc0,hgr⟩:=Zbg h hB;have s1:=(St.refl noB w).alloc (gQ A1 c1 A2 c2 A3 c3 A4 c4 g) 27;have y1:=(hgr _ (Chg.refl _ _)).k;unfold Zd8.run;simp -dsimp[go_sem,y1];have hg1:=Zx h (s1.chg.below hB λ _ _=>id);have hB1:B<=(w.alloc (.cells (gQ A1 c1 A2 c2 A3 c3 A4 c4 g) 27)).heap.size:=by have:=s1.chg.size;omega
 clear hgr hc0 y1;generalize w.alloc (.cells (gQ A1 c1 A2 c2 A3 c3 A4 c4 g) 27)=w1 at s1 hg1 hB1 |-;generalize w.heap.size=q at s1 |-;refine Zi (Zxo hg1 hB1) ?_;rintro _ w2 ⟨rfl,hc2⟩;have s2:=s1.old hc2;have y2:=(s2.box 0 rfl).1;simp[Zw]at y2
 cases Zn2 g with
 | true=>
  simp -dsimp[go_sem];exact hR _ _ ⟨rfl,s2.chg⟩
 | false=>
  simp -dsimp[go_sem,y2];refine Zi (Znf (Zx hg1 (hc2.below hB1 λ _ _=>id)) (by have:=hc2.size;omega)) ?_;rintro _ w3 ⟨rfl,hc3⟩;exact hR _ _ ⟨by rw[Zc5.2 hcl],s2.chg.trans hc3⟩
theorem Zpu {w:World}{B:Nat}{vg:Value}{g:Gr}(hg:Zb7.atN w B vg g)(hB:B<=w.heap.size)(hcl:Zbn g)(hD:Deb w) :
  Ct Tryz.prog Zc6.id #[vg] w λ v w'=>∃(nb c:Nat) (null:List Bool),v = .tuple #[.slice (some ⟨nb,g.terms.length,none⟩) g.nons.length c,.int .i64 0]/\null.length=g.terms.length+g.nons.length/\(∀s,Nul g.prods s↔vanS g.terms.length (null.drop g.terms.length) s=true) /\
   St noB w w' [rowC 4 1 (some ⟨nb,0,none⟩) (g.terms.length+g.nons.length) (g.terms.length+g.nons.length) (Zaz null)]:=by
 refine Zc6.ct λ R hR=>?_;obtain ⟨A1,c1,A2,c2,A3,c3,A4,c4,rfl,⟨m1,m2,m3,m4⟩,hst,hc0,hgr⟩:=Zbg hg hB;have s1:=(St.refl noB w).alloc (gQ A1 c1 A2 c2 A3 c3 A4 c4 g) 27;have y1:=(hgr _ (Chg.refl _ _)).k;unfold Zc6.run;simp -dsimp[go_sem,y1];have hg1:=Zx hg (s1.chg.below hB λ _ _=>id);have hB1:B<=(w.alloc (.cells (gQ A1 c1 A2 c2 A3 c3 A4 c4 g) 27)).heap.size:=by have:=s1.chg.size;omega
 clear hgr hc0 y1;generalize w.alloc (.cells (gQ A1 c1 A2 c2 A3 c3 A4 c4 g) 27)=w1 at s1 hg1 hB1 |-;generalize w.heap.size=q at s1 |-;refine Zi (Zvk hg1 hB1 hcl) ?_;rintro _ w2 ⟨rfl,hc2⟩;have s2:=s1.old hc2;obtain ⟨y2,_,l2⟩:=(s2.box 0 rfl);simp[Zw]at y2;have hT:=hcl.syms.t1;have hN:=hcl.syms.n1;simp -dsimp[go_sem,y2,l2];have hc3:Chg noB w1 w2.drew:=hc2.drew;have s3:=s1.old hc3;refine Zi (ZZ177 (Zx hg1 (hc3.below hB1 λ _ _=>id)) (by have:=hc3.size;omega) hcl (hD.chg s3.chg id)) ?_;rintro _ w4 ⟨sb,nb,gv,aB,cB,null,K,rfl,hgv,hn,hclo,hsn,s4⟩;have s5:=s3.seq s4;obtain ⟨y5,_,l5⟩:=(s5.box 0 rfl);obtain ⟨z5,_,lz5⟩:=(s5.box 1 (by unfold fsL;rfl));obtain ⟨g1,g2,g3,g4,g5,rfl⟩:∃a b c d e,gv=[a,b,c,d,e]:=by
  match gv,hgv with
  | [a,b,c,d,e],_=>exact ⟨a,b,c,d,e,rfl⟩
 simp[Zw]at y5 z5;have hle:(g.terms.length:Int)<=(g.terms.length:Int)+(g.nons.length:Int):=by omega
 have hnn:g.nons≠[]:=λ e=>by
  have:=hcl.first;rw[e]at this;cases this
 unfold Zc6.b1_1;simp -dsimp[go_sem,y5,l5,z5,lz5,hle,hnn];have hdrop:∀i,(null.drop g.terms.length).getD i false=null.getD (g.terms.length+i) false:=λ i=>by
  rw[Qc,Qbp,<-Qc]
 have hv:∀s:Int,0<=s->nulI null s=vanS g.terms.length (null.drop g.terms.length) s:=λ s hs=>by
  unfold nulI vanS;by_cases h:(g.terms.length:Int)<=s
  ·rw[decide_eq_true h,Qcm,hdrop];congr 1;omega
  ·rw[decide_eq_false h,Bool.false_and];exact hsn.low _ (by omega)
 refine hR _ _ ⟨nb,g.nons.length,null,rfl,hn,Zvg (λ p hp hall=>?_) (λ s hs=>?_),s5.pick [2] (by decide) rfl⟩
 ·have hx:=hcl.syms' p hp;rw[<-hv p.1 (by omega)];refine hclo p hp (Qar.2 λ x hx2=>?_);rw[hv x (by have:=hx.2 x hx2;omega)];exact Qar.1 hall x hx2
 ·have h1:=hs;unfold vanS at h1;rw[Qad,decide_eq_true_eq,hdrop]at h1;have:=hsn.nul _ h1.2;rwa [show ((g.terms.length+(s-(g.terms.length:Int)).toNat:Nat):Int)=s by omega]at this
end Go.Proofs.YtjibcckpehdbhaaGreatDoor
namespace Go.Px.Cn
open Go.Px Go.Px.Scan
theorem AutP.no_big {g:Gr}{ks:List (List It)}{ess:List (List (Int×Nat))}(h:AutP g ks ess):¬∃ks' i,BldI g.prods ks' i/\256<ks'.length:=by
 rintro ⟨ks',i,hb,hl⟩;have hsub:∀x∈ks',x∈ks:=λ x hx=>by
  obtain ⟨l,hl,hle⟩:=h.lr.all (hb.r0 x hx);rw[<-Zkp (h.lr.srt l hl) (hb.srt x hx) hle];exact hl
 have:=Qc5 hb.nd hsub;have:=h.len;omega
theorem AutP.noAut {g:Gr}{ks:List (List It)}{ess:List (List (Int×Nat))}(h:AutP g ks ess){e:Nat}:¬Go.Proofs.YtjibcckpehdbhaaGreatDoor.NoAut g e:=by
 rintro (⟨_,hc⟩|⟨_,_,hb⟩)
 ·exact hc h.cl
 ·exact h.no_big hb
def atP (T:List (Nat×Int)):Nat->UInt16×UInt16->Int
 | 0,_=>0
 | j+1,c=>if T[j]?=some (c.1.toNat,(c.2.toNat:Int)) then (j:Int)+1 else atP T j c
section
variable {T:List (Nat×Int)}
theorem ZZ70 {j q s:Nat}(h:T[j]?=some (q,(s:Int)))(hq:q<65536)(hs:s<65536):atP T (j+1) (tr q s)=(j:Int)+1/\∀c,c≠tr q s->atP T (j+1) c=atP T j c:=by
 constructor
 ·unfold atP;rw[(Zfr hq hs).1,(Zfr hq hs).2,if_pos h]
 ·intro c hc;obtain ⟨q',s',hq',hs',rfl⟩:=Zu1 c
  show (if T[j]?=some ((tr q' s').1.toNat,((tr q' s').2.toNat:Int)) then (j:Int)+1 else atP T j (tr q' s'))=_
  rw[(Zfr hq' hs').1,(Zfr hq' hs').2,if_neg];rw[h];intro e;injection e with e;injection e with e1 e2;exact hc (by rw[e1,Int.ofNat_inj.1 e2])
def trI (T:List (Nat×Int))(q s:Nat):Nat:=T.idxOf (q,(s:Int))
def atV (T:List (Nat×Int))(q s:Nat):Int:=if (q,(s:Int))∈T then (trI T q s:Int)+1 else 0
theorem Zn6 {q s:Nat}(h:(q,(s:Int))∈T):T[trI T q s]?=some (q,(s:Int))/\trI T q s<T.length:=by
 have:=List.idxOf_lt_length_of_mem h;exact ⟨by unfold trI;rw[Qb this];exact congrArg some (List.getElem_idxOf this),this⟩
theorem Zz6 (hn:T.Nodup){q s:Nat}(hq:q<65536)(hs:s<65536):∀j,j<=T.length->atP T j (tr q s)=if (q,(s:Int))∈T.take j then (trI T q s:Int)+1 else 0
 | 0,_=>by simp[atP]
 | j+1,hj=>by
  have ih:=Zz6 hn hq hs j (by omega)
  have hjl:j<T.length:=by omega
  rw[Qd hjl]
  unfold atP
  rw[(Zfr hq hs).1,(Zfr hq hs).2]
  by_cases h:T[j]?=some (q,(s:Int))
  ·have h2:T[j]=(q,(s:Int)):=(Qa.1 h).2
   rw[if_pos h,if_pos (by rw[h2];simp)]
   have hm:(q,(s:Int))∈T:=Qe h
   have:=Zer hn (Zn6 hm).1 h
   omega
  ·have h2:¬(q,(s:Int))=T[j]:=λ e=>h (by rw[Qb hjl,e])
   have h3:(q,(s:Int))∈T.take j++[T[j]]↔(q,(s:Int))∈T.take j:=by
    rw[Qk,Qg];exact ⟨λ h=>h.elim id λ h=>absurd h h2,Or.inl⟩
   rw[if_neg h,ih]
   by_cases h4:(q,(s:Int))∈T.take j
   ·rw[if_pos h4,if_pos (h3.2 h4)]
   ·rw[if_neg h4,if_neg λ h=>h4 (h3.1 h)]
theorem ZZ76 (hn:T.Nodup){q s:Nat}(hq:q<65536)(hs:s<65536):atP T T.length (tr q s)=atV T q s:=by
 rw[Zz6 hn hq hs _ (Ql _),Qm];rfl
theorem Zvv {q s:Nat}(h:(q,(s:Int))∈T):atV T q s=(trI T q s:Int)+1:=if_pos h
theorem Zuk {q s:Nat}:0<atV T q s↔(q,(s:Int))∈T:=by
 unfold atV;split
 ·exact ⟨λ _=>by assumption,λ _=>by omega⟩
 ·exact ⟨λ h=>by omega,λ h=>by contradiction⟩
end
def pU (ess:List (List (Int×Nat)))(i:Nat)(S:List Int):UInt16×UInt16->Int:=λ c=>if pT ess i S c=0 then 0 else pT ess i S c+1
def toV (ess:List (List (Int×Nat)))(q s:Nat):Int:=if toF ess q s=0 then 0 else (toF ess q s:Int)+1
section
variable {ess:List (List (Int×Nat))}
theorem ZZ173 {i a r:Nat}{S:List Int}(hi:i<65536)(ha:a<65536)(hr:toF ess i a=r)(hr1:1<=r):pU ess i (S++[(a:Int)]) (tr i a)=(r:Int)+1/\∀c,c≠tr i a->pU ess i (S++[(a:Int)]) c=pU ess i S c:=by
 obtain ⟨h1,h2⟩:=Zz7 (S:=S) hi ha hr;refine ⟨?_,λ c hc=>?_⟩
 ·unfold pU;rw[h1,if_neg (by omega)]
 ·unfold pU;rw[h2 c hc]
theorem ZZ65 {i:Nat}{es:List (Int×Nat)}(hes:ess[i]?=some es):pU ess i (es.map (·.1))=pU ess (i+1) []:=by unfold pU;rw[Zvw hes]
theorem ZZ50:pU ess 0 []=λ _=>0:=by
 unfold pU;rw[Zvq];rfl
theorem ZZ116 {q s:Nat}(hq:q<65536)(hs:s<65536):pU ess ess.length [] (tr q s)=toV ess q s:=by
 unfold pU toV;rw[Zz5]
 show (if ((toF ess (tr q s).1.toNat (tr q s).2.toNat:Nat):Int)=0 then 0 else ((toF ess (tr q s).1.toNat (tr q s).2.toNat:Nat):Int)+1)=_
 rw[(Zfr hq hs).1,(Zfr hq hs).2];by_cases h:toF ess q s=0
 ·rw[if_pos h,if_pos (by omega)]
 ·rw[if_neg h,if_neg (by omega)]
theorem ZZ184 {q s r:Nat}(h:toF ess q s=r)(hr:r≠0):toV ess q s=(r:Int)+1:=by unfold toV;rw[h,if_neg hr]
end
theorem Zke {g:Gr}{ks:List (List It)}{ess:List (List (Int×Nat))}(h:AutP g ks ess)(nT:Nat):(trL nT ess).Nodup:=by
 have key:∀n,n<=ess.length->(trL nT (ess.take n)).Nodup/\∀x∈trL nT (ess.take n),x.1<n:=by
  intro n
  induction n with
  | zero=>intro _;simp[trL]
  | succ n ih=>
   intro hn;obtain ⟨i1,i2⟩:=ih (by omega);have hnl:n<ess.length:=by omega
   rw[Qd hnl,Zmb,Q6,Qb8 (by omega)];obtain ⟨l,es,_,e2,e3⟩:=h.at (q:=n) (by rw[<-h.es.len];exact hnl);have e4:ess[n]=es:=(Qa.1 e2).2;rw[e4];have h1:∀x∈trS nT n es,x.1=n:=λ x hx=>by
    obtain ⟨e,_,rfl⟩:=Qr.1 hx;rfl
   refine ⟨Qak.2 ⟨i1,?_,λ a ha b hb e=>?_⟩,λ x hx=>?_⟩
   ·unfold trS;have hnd:(es.map (·.1)).Nodup:=e3.srt.imp λ h=>by omega
    have:((es.filter λ e=>decide ((nT:Int)<=e.1)).map (·.1)).Nodup:=List.Nodup.sublist (List.Sublist.map _ List.filter_sublist) hnd;rw[List.nodup_iff_pairwise_ne,Qbk]at this |-;exact this.imp λ hne e=>hne (by injection e)
   ·subst e;have:=i2 a ha;have:=h1 a hb;omega
   ·rcases Qk.1 hx with hx|hx
    ·have:=i2 x hx;omega
    ·have:=h1 x hx;omega
 have:=(key ess.length (Ql _)).1;rwa [Qm]at this
end Go.Px.Cn
