/-
  Texts of this claim: LoA, LoB, Cq1, Cq3, Cq4, Tm2, Rl1.
-/
import Derived.Test.YtjibcckpehdbhaaGreatDoorY14
import Derived.Test.YtjibcckpehdbhaaGreatDoorY04
import Derived.Test.YtjibcckpehdbhaaGreatDoorY12
set_option maxHeartbeats 1000000
set_option linter.unusedSimpArgs false
set_option linter.unusedVariables false
set_option maxRecDepth 100000
namespace Go.Px.Cn
open Go.Px
abbrev EK':=Option Addr×Nat×List (Int×Nat)
def edC (e:EK'):Ch:=rowC 99 2 e.1 e.2.2.length e.2.1 (e.2.2.flatMap edV)
structure EdOk (P:Prs)(ks:List (List It))(l:List It)(es:List (Int×Nat)):Prop where
 srt:(es.map (·.1)).Pairwise (· < ·)
 to:∀p∈es,(∃z,Go0 P (·∈l) p.1 z)/\∃l',ks[p.2]?=some l'/\∀z,z∈l'↔Go0 P (·∈l) p.1 z
 all:∀a,(∃z,Go0 P (·∈l) a z)->a∈es.map (·.1)
structure EdI (P:Prs)(K:List SR)(ES:List EK')(i:Nat):Prop where
 len:ES.length=i
 bf:BfI (Zfk (ES.map (·.2.2))) K.length
 val:∀(j:Nat) x e,j<i->K[j]?=some x->ES[j]?=some e->x.2.2.2 = .slice e.1 e.2.2.length e.2.2.length/\EdOk P (ksOf K) x.2.2.1 e.2.2
theorem EdOk.grow {P:Prs}{ks ks':List (List It)}{l:List It}{es:List (Int×Nat)}(h:EdOk P ks l es)(hk:∀(j:Nat) l,ks[j]?=some l->ks'[j]?=some l):EdOk P ks' l es :=
 ⟨h.srt,λ p hp=>by obtain ⟨h1,l',h2,h3⟩:=h.to p hp;exact ⟨h1,l',hk _ _ h2,h3⟩,h.all⟩
theorem EdI.grow {P:Prs}{K:List SR}{ES:List EK'}{i:Nat}(h:EdI P K ES i)(hi:i<=K.length)(q:List SR)(j:Nat)(x:SR)(e:EK')(hj:j<i)(hx:(K++q)[j]?=some x)(he:ES[j]?=some e):x.2.2.2 = .slice e.1 e.2.2.length e.2.2.length/\EdOk P (ksOf (K++q)) x.2.2.1 e.2.2:=by
 rw[Qf (by omega)]at hx;obtain ⟨h1,h2⟩:=h.val j x e hj hx he;refine ⟨h1,h2.grow λ j l hl=>?_⟩;unfold ksOf at hl |-;rw[Qu,Qf (Qa.1 hl).1];exact hl
theorem EdI.next {P:Prs}{K K':List SR}{ES:List EK'}{i:Nat}(hlen:ES.length=i)(hval:∀(j:Nat) x e,j<i->K[j]?=some x->ES[j]?=some e->x.2.2.2 = .slice e.1 e.2.2.length e.2.2.length/\EdOk P (ksOf K) x.2.2.1 e.2.2){x:SR}{e:EK'}(hbf:BfI (Zfk (ES.map (·.2.2))++e.2.2.map λ f=>(i,f.2)) K.length)(hx:K[i]?=some x)(hK:K'=K.set i (x.1,x.2.1,x.2.2.1,.slice e.1 e.2.2.length e.2.2.length))(hks:ksOf K'=ksOf K)(he:EdOk P (ksOf K) x.2.2.1 e.2.2):EdI P K' (ES++[e]) (i+1):=by
 refine ⟨by simp[hlen],?_,λ j y f hj hy hf=>?_⟩
 ·rw[Qu,List.map_singleton,Zrs,Qp,hlen];have:K'.length=K.length:=by rw[hK,Qau]
  rw[this];exact hbf
 rw[hks];by_cases hji:j=i
 ·subst hji;rw[hK,Qn (Qa.1 hx).1]at hy;injection hy with hy;subst hy;rw[Qi (by rw[hlen];exact Ql _),hlen,Qam]at hf;injection hf with hf;subst hf;exact ⟨rfl,he⟩
 ·rw[hK,Qs (Ne.symm hji)]at hy;rw[Qf (by rw[hlen];omega)]at hf;exact hval j y f (by omega) hy hf
end Go.Px.Cn
namespace Go.Proofs.YtjibcckpehdbhaaGreatDoor
open Go.Px Go.Px.Scan Go.Px.Cn Go.RowKit
attribute [-go_sem] Builtin.append_ Zn.b15 Zn.b15_1 Zn.b9 Zn.b11 Zn.b20 Zn.b16 Zn.b3 Zn.b3_1 Zn.b7 Zn.b4 Zn.b1_1 Zn.b1_2 Zn.b1_3
theorem Zxk {w:World}{a:Option Addr}{n c:Nat}(h:n<=c):Ct Tryz.prog Za1.id #[.slice a n c] w λ v w'=>v = .slice a n n/\w=w':=by
 refine Za1.ct λ R hR=>?_;unfold Za1.run
 cases a with
 | none=>
  simp -dsimp[go_sem,h];exact hR _ _ ⟨rfl,rfl⟩
 | some a=>
  simp -dsimp[go_sem,h];exact hR _ _ ⟨rfl,rfl⟩
theorem Zyx {w:World}{a:Option Addr}{n c:Nat}(h:n<=c):Ct Tryz.prog Zax.id #[.slice a n c] w λ v w'=>v = .slice a n n/\w=w':=by
 refine Zax.ct λ R hR=>?_;unfold Zax.run
 cases a with
 | none=>
  simp -dsimp[go_sem,h];exact hR _ _ ⟨rfl,rfl⟩
 | some a=>
  simp -dsimp[go_sem,h];exact hR _ _ ⟨rfl,rfl⟩
theorem ZZ86 {K:List SR}{i:Nat}{x:SR}(h:K[i]?=some x)(e:Value):(K.flatMap stV).set (i*2+1) e=(K.set i (x.1,x.2.1,x.2.2.1,e)).flatMap stV:=by
 induction K generalizing i with
 | nil=>simp at h
 | cons y K ih=>
  match i,h with
  | 0,h=>simp at h;subst h;simp[stV,kerV]
  | i+1,h=>
   have h:K[i]?=some x:=by simpa using h
   rw[Qan,Qa9,Qan,<-ih h,Qac _ _ (by simp[stV];omega)];congr 1;simp[stV];congr 1;omega
theorem ZZ117 {K:List SR}{i:Nat}{x:SR}(h:K[i]?=some x)(e:Value):(K.set i (x.1,x.2.1,x.2.2.1,e)).map (λ x=>qC 2 x.1 x.2.2.1.length x.2.1 (x.2.2.1.flatMap itV))=K.map (λ x=>qC 2 x.1 x.2.2.1.length x.2.1 (x.2.2.1.flatMap itV))/\ksOf (K.set i (x.1,x.2.1,x.2.2.1,e))=ksOf K/\(∀s,fK (K.set i (x.1,x.2.1,x.2.2.1,e)) s=fK K s):=by
 have gen:∀{β:Type} (f:SR->β),f (x.1,x.2.1,x.2.2.1,e)=f x->(K.set i (x.1,x.2.1,x.2.2.1,e)).map f=K.map f:=λ {β} f hf=>by
  have hil:=(Qa.1 h).1;rw[Qap,hf];have h9:i<(K.map f).length:=by simpa using hil
  have:=Qai h9;rw[Q8,(Qa.1 h).2]at this;exact this
 refine ⟨gen _ rfl,gen _ rfl,λ s=>?_⟩;unfold fK;have e1:∀K:List SR,K.findIdx? (λ x=>decide (BA (keyB x.2.2.1)=s))=(K.map λ x=>x.2.2.1).findIdx? (λ l=>decide (BA (keyB l)=s)):=λ K=>by rw[List.findIdx?_map];rfl
 rw[e1,e1,gen (λ x=>x.2.2.1) rfl]
theorem ZZ134 {W w:World}{rb:Nat}{L:List Ch}{t:TypeId}{cs:List Value}(s:St (·=rb) W w L)(k:Nat)(hk:L[k]?=some (boxC rb t cs))(hW:W.heap[rb]?=some (.cells cs.toArray t (0,0))):Chg noB W w:=by
 obtain ⟨F,h,_⟩:=s.get hk;refine ⟨s.chg.os,s.chg.tape,s.chg.output,s.chg.size,λ i hi _=>?_⟩;by_cases e:i=rb
 ·subst e;rw[hW];exact h.2
 ·exact s.chg.block i hi e
theorem Zpx {W w:World}{mb:Nat}{A4:Option Addr}{c4:Nat}{P:Prs}(hm:MkR W mb A4 c4 P)(hP:P.length<=97)(hsy:Zxe P){tb rb i m:Nat}{Ast:Option Addr}{cst:Nat}{vat:Value}{asked:Int}{K:List SR}{ES:List EK'}
  {R:Ending->World->Prop} {C6:Value->World->Prop} (hEd:EdI P K ES i) (hW:W.heap[rb]?=some (.cells #[.slice none 0 0,.int .i64 0,.int .i64 0] 34 (0,0))) (s:St (·=rb) W w (tabL Tryz.prog tb Ast cst vat m asked K++[rbC rb,Ch.all (ES.map edC)])) (hK:KOk P K i) (hi:i<K.length) (hm':m<=30000*i+1)
  (hbig:∀w',Chg (·=rb) W w'->(∃ks i,BldI P ks i/\256<ks.length)->R (.returned (.tuple #[.agg #[.slice none 0 0,.int .i64 0,.int .i64 0],.int .i64 11])) w')
  (hgo:∀w' Ast' cst' m' asked' K' ES',m'<=m+30000->KOk P K' (i+1)->K.length<=K'.length->EdI P K' ES' (i+1)->St (·=rb) W w' (tabL Tryz.prog tb Ast' cst' vat m' asked' K'++[rbC rb,Ch.all (ES'.map edC)])->Zn.b9 R C6 (.int .i64 i) w') :
  Zn.b11 R C6 (.pointer (some ⟨rb,0,none⟩)) (.pointer (some ⟨mb,0,none⟩)) (.pointer (some ⟨tb,0,none⟩)) (.int .i64 i) w:=by
 have hlen:=hK.len;have hx:K[i]?=some K[i]:=Qb hi;obtain ⟨x,hxe⟩:∃x,K[i]=x:=⟨_,rfl⟩;rw[hxe]at hx;obtain ⟨hk0,hR0,hval,hsrt,hnd,hll,h0⟩:=hK.kernel hP hx;have hne:=hK.ne x (Qe hx);have y0:=(s.box 0 rfl).1.1;obtain ⟨F2,ho2,_⟩:=s.get (k:=2) rfl;obtain ⟨gs,es,hst,_⟩:=Zck ho2 (λ _ _=>rfl) (by decide) hx;subst es;have st0:=hst 0 _ rfl;simp only[Qb3,kerV]at st0;obtain ⟨F3,s3k,_⟩:=s.inAll' 3 rfl;have hrd:=ZZ42 s3k i (a:=x.1) (n:=x.2.2.1.length) (c:=x.2.1) (l:=x.2.2.1) (by rw[Qh,hx];rfl);unfold Zn.b11;simp -dsimp[go_sem,y0,hi,st0];refine Zi (Zr7 hm (ZZ134 s 4 rfl hW) hP hsy hrd (Ql _) (by omega) hne hval hnd h0) ?_;rintro vk w1 ⟨n,r,E,hsr,hr,hrl,hE,hvE,hkE,hEl,hn,s1⟩;have s2:=s.seq s1;refine Zvo s2 hE (by omega) λ w2 sy cs S hSn hSlt hSk hSl s3=>?_;have s4:St (·=rb) W w2 (tabL Tryz.prog tb (some ⟨gs,0,none⟩) cst vat m asked K++edL (Ch.all (ES.map edC)) rb vk n E [] sy S none 0 0 []):=by
  have:=s3.nilRow 99 2;unfold edL;rw[Zu9];exact this.pick [0,1,2,3,4,6,7,8,9,5] (by decide) rfl
 have hSi:∀a∈S,Zdf a:=λ a ha=>by
  have h1:=(hkE a).1 ((hSk a).1 ha);obtain ⟨y,hy⟩:=Qbv _ h1;obtain ⟨z,_,hz,_⟩:=Zjp.1 hy;exact (hsy.pos _ _ (Zj0 hz)).2
 unfold Zn.b16;simp -dsimp[go_sem];refine Zr3 s4 hP hK hk0 hE hvE hkE hr hsr (by omega) hSn hSk hSi hm' (by omega) hSl hEd.bf hbig λ w3 Ast' cst' m' asked' K' ae ce es hm1 hK1 ⟨q,hq⟩ hdone hes1 hes2 hbf s5=>?_;have y5:=(s5.box 0 rfl).1.1;have hx':K'[i]?=some x:=by rw[hq,Qf hi];exact hx
 have hi':i<K'.length:=(Qa.1 hx').1;obtain ⟨_,hnc,_⟩:=s5.rowSize 8 rfl;unfold Zn.b15;simp -dsimp[go_sem,y5];have s6:=s5.old ((Chg.refl noB w3).drew);clear y5;generalize w3.drew=w4 at s6 |-;refine Zi (Zxk hnc) ?_;rintro _ _ ⟨rfl,rfl⟩;have y6:=(s6.box 0 rfl).1.1;obtain ⟨F6,ho6,_⟩:=s6.get (k:=2) rfl;obtain ⟨g6,e6,hst6,hfr6,_⟩:=Zck ho6 (λ _ _=>rfl) (by decide) hx';subst e6;have st6:=hst6 1 _ rfl;have fr6:=hfr6 (i*2+1);have s7:=s6.setRow 2 rfl (i*2+1) (.slice ae es.length es.length);rw[ZZ86 hx']at s7;unfold Zn.b15_1;simp -dsimp[go_sem,y6,hi',st6,fr6];obtain ⟨e1,e2,e3⟩:=ZZ117 hx' (.slice ae es.length es.length);have e3':fK (K'.set i (x.1,x.2.1,x.2.2.1,.slice ae es.length es.length))=fK K':=funext e3;have el:(K'.set i (x.1,x.2.1,x.2.2.1,Value.slice ae es.length es.length)).length=K'.length:=Qau;have hkx:(ksOf K')[i]?=some x.2.2.1:=by unfold ksOf;rw[Qh,hx'];rfl
 refine hgo _ (some ⟨g6,0,none⟩) cst' m' asked' (K'.set i (x.1,x.2.1,x.2.2.1,.slice ae es.length es.length)) (ES++[(ae,ce,es)]) (by omega) ⟨?_,by rw[el];exact hK1.len,λ y hy=>?_⟩ (by rw[el,hq];simp) ?_ ?_
 ·rw[e2];refine hK1.bld.next hkx λ a ha=>?_;obtain ⟨z,hz⟩:=ha;have hm:=(Zij hr a z).2 hz;have hne':kerL P r a≠[]:=λ e=>by rw[e]at hm;cases hm
  exact ⟨_,hdone a ((hSk a).2 ((hkE a).2 hne')),λ z=>Zij hr a z⟩
 ·have:y.2.2.1∈ksOf (K'.set i (x.1,x.2.1,x.2.2.1,.slice ae es.length es.length)):=Qr.2 ⟨y,hy,rfl⟩;rw[e2]at this;obtain ⟨z,hz,e⟩:=Qr.1 this;rw[<-e];exact hK1.ne z hz
 ·refine EdI.next (e:=(ae,ce,es)) hEd.len (λ j x e h1 h2 h3=>by rw[hq]at h2 |-;exact hEd.grow (by omega) q j x e h1 h2 h3) hbf hx' rfl e2 ⟨?_,λ p hp=>?_,λ a ha=>?_⟩
  ·show (es.map (·.1)).Pairwise (· < ·)
   rw[hes1];exact hSlt
  ·have hp1:p.1∈S:=by rw[<-hes1];exact Qr.2 ⟨p,hp,rfl⟩
   have h1:=(hkE p.1).1 ((hSk p.1).1 hp1);obtain ⟨y,hy⟩:=Qbv _ h1;exact ⟨⟨y,(Zij hr p.1 y).1 hy⟩,_,hes2 p hp,λ z=>Zij hr p.1 z⟩
  ·show a∈es.map (·.1)
   rw[hes1];obtain ⟨z,hz⟩:=ha;have hm:=(Zij hr a z).2 hz;have hne':kerL P r a≠[]:=λ e=>by rw[e]at hm;cases hm
   exact (hSk a).2 ((hkE a).2 hne')
 ·unfold tabL;rw[el,e1,e3'];have s8:=s7.into 8 9 rfl rfl (by decide);have e9:(ES++[((ae,ce,es):EK')]).map edC=ES.map edC++[rowC 99 2 ae es.length ce (es.flatMap edV)]:=by rw[Qu];rfl
  rw[e9];exact s8.pick [0,1,2,3,4,9] (by decide) rfl
def StR (w:World)(A:Option Addr)(ks:List (List It)):Prop:=∀(i:Nat) (l:List It),ks[i]?=some l->∃g a c,A=some ⟨g,0,none⟩/\w.cell? ⟨g,i*2,none⟩=some (.slice (some a) l.length c)/\(Zq rIt).at1 w w.heap.size (.slice (some a) l.length c) l
theorem bTab (q:Option Nat)(w:World):(Instr.build 86 #[(1,.map q)]).run Tryz.prog w = .ok (.agg #[.slice none 0 0,.int .i64 0,.int .i64 0,.map q]) w:=by simp[go_sem]
theorem ZZ192 (w:World):(Instr.build 89 #[]).run Tryz.prog w = .ok (.agg #[.int .i64 0,.int .i64 0]) w:=by simp[go_sem]
theorem Zd7 {g:Gr}(h:Zbn g):∀p∈g.prods,Zdf p.1/\∀x∈p.2.1,1<=x/\x<g.terms.length+g.nons.length/\x≠g.terms.length:=by
 intro p hp;have hd:=h.prods.each;have ha:=h.added;have ht:=h.syms.t1;have hn:=h.syms.n1
 cases hq:g.prods with
 | nil=>rw[hq]at hp;cases hp
 | cons a b=>
  rw[hq]at hp hd ha;rcases Qaa.1 hp with rfl|hp
  ·injection ha with ha;have h1:=h.syms.n0;have h2:=h.prods.s1;have h3:=h.prods.s0;rw[ha];refine ⟨by unfold Zdf;show (-9223372036854775808:Int)<=(g.terms.length:Int)/\(g.terms.length:Int)<=9223372036854775807;omega,λ x hx=>?_⟩;simp at hx;subst hx;omega
  ·have:=hd p (by simpa using hp);have h1:=this.l0;have h2:=this.l1;refine ⟨by unfold Zdf;omega,λ x hx=>?_⟩;have h3:=this.right x hx;refine ⟨h3.1,h3.2.1,λ e=>?_⟩;have:=h3.2.2 (by omega);omega
theorem Zd9 {g:Gr}(h:Zbn g):lft g.prods 0=g.terms.length/\0<g.prods.length:=by
 have ha:=h.added
 cases hq:g.prods with
 | nil=>rw[hq]at ha;cases ha
 | cons a b=>
  rw[hq]at ha;injection ha with ha;subst ha;exact ⟨rfl,by simp⟩
theorem Zy6 {g:Gr}(h:Zbn g):Zxe g.prods where
 pos p s hs:=by
  unfold rgt at hs;by_cases hp:p<g.prods.length
  ·rw[Qc,Qb hp]at hs;have hs:s∈g.prods[p].2.1:=hs;have:=(Zd7 h _ (Qj hp)).2 s hs;have ht:=h.syms.t1;have hn:=h.syms.n1;unfold Zdf;omega
  ·rw[Qc,Qx (by omega)]at hs;simp at hs
 no0 p hs:=by
  rw[(Zd9 h).1]at hs;unfold rgt at hs;by_cases hp:p<g.prods.length
  ·rw[Qc,Qb hp]at hs;have hs:(g.terms.length:Int)∈g.prods[p].2.1:=hs;exact ((Zd7 h _ (Qj hp)).2 _ hs).2.2 rfl
  ·rw[Qc,Qx (by omega)]at hs;simp at hs
end Go.Proofs.YtjibcckpehdbhaaGreatDoor
namespace Go.Px.Cn
open Go.Px
def Zj8:Rep (Int×Nat) where
 size:=2
 bytes:=16
 ok _ _ cs x:=cs=edV x
 len h:=by rw[h];rfl
 keep h _ _:=h
 one h u hu:=by rw[h]at hu;simp[edV]at hu;rcases hu with rfl | rfl<;>rfl
def EdR (w:World)(A:Option Addr)(ess:List (List (Int×Nat))):Prop:=∀(i:Nat) es,ess[i]?=some es->∃g ae,A=some ⟨g,0,none⟩/\w.cell? ⟨g,i*2+1,none⟩=some (.slice ae es.length es.length)/\(Zq Zj8).at1 w w.heap.size (.slice ae es.length es.length) es
structure EsOk (P:Prs)(ks:List (List It))(ess:List (List (Int×Nat))):Prop where
 len:ess.length=ks.length
 bf:BfI (Zfk ess) ks.length
 ok:∀(i:Nat) l es,ks[i]?=some l->ess[i]?=some es->EdOk P ks l es
end Go.Px.Cn
namespace Go.Proofs.YtjibcckpehdbhaaGreatDoor
open Go.Px Go.Px.Scan Go.Px.Cn Go.RowKit
attribute [-go_sem] Builtin.append_ Zn.b15 Zn.b15_1 Zn.b9 Zn.b11 Zn.b20 Zn.b16 Zn.b3 Zn.b3_1 Zn.b7 Zn.b4 Zn.b1_1 Zn.b1_2 Zn.b1_3
theorem Zl2 {w:World}{B:Nat}{vg:Value}{g:Gr}(hg:Zb7.atN w B vg g)(hB:B<=w.heap.size) :
  Ct Tryz.prog Zn.id #[vg] w λ v w'=>Chg noB w w'/\((¬Zbn g/\v = .tuple #[.agg #[.slice none 0 0,.int .i64 0,.int .i64 0],.int .i64 1])\/((Zbn g/\∃ks i,BldI g.prods ks i/\256<ks.length)/\v = .tuple #[.agg #[.slice none 0 0,.int .i64 0,.int .i64 0],.int .i64 11]) \/
   (Zbn g/\∃A c asked ks ess,v = .tuple #[.agg #[.slice A ks.length c,.int .i64 asked,.int .i64 (ks.length:Nat)],.int .i64 0]/\Lr0 g.prods ks/\ks.length<=256/\(∀l∈ks,Val g.prods l/\l.length<=29100/\l≠[]/\(∀y∈l,y.2=0->y=(0,0))/\∀y∈l,y.2<=256)/\StR w' A ks/\ks[0]?=some [(0,0)]/\EsOk g.prods ks ess/\EdR w' A ess)):=by
 refine Zn.ct λ R hR=>?_;obtain ⟨A1,c1,A2,c2,A3,c3,A4,c4,rfl,⟨m1,m2,m3,m4⟩,hst,hc0,hgr⟩:=Zbg hg hB;have s1:=((St.refl noB w).alloc (gQ A1 c1 A2 c2 A3 c3 A4 c4 g) 27).alloc #[.slice none 0 0,.int .i64 0,.int .i64 0] 34;obtain ⟨q,hq⟩:∃q,w.heap.size=q:=⟨_,rfl⟩;have e1:(w.alloc (.cells (gQ A1 c1 A2 c2 A3 c3 A4 c4 g) 27)).heap.size=q+1:=by simp[hq]
 rw[e1,hq]at s1;unfold Zn.run;have y1:=(s1.box 0 rfl).1;have y10:=y1.1;have y11:=y1.2.1;have y12:=y1.2.2.1;have y13:=y1.2.2.2.1;have y14:=y1.2.2.2.2.1;simp -dsimp[go_sem,hq,y10,y11,y12,y13,y14];have hb1:=s1.chg.below hB λ _ _=>id;have hB1:B<=((w.alloc (.cells (gQ A1 c1 A2 c2 A3 c3 A4 c4 g) 27)).alloc (.cells #[.slice none 0 0,.int .i64 0,.int .i64 0] 34)).heap.size:=by have:=s1.chg.size;omega
 have hg1:=Zx hg hb1;clear y1 y10 y11 y12 y13 y14 e1;generalize (w.alloc (.cells (gQ A1 c1 A2 c2 A3 c3 A4 c4 g) 27)).alloc (.cells #[.slice none 0 0,.int .i64 0,.int .i64 0] 34)=w1 at s1 hb1 hB1 hg1 |-;refine Zi (Znf hg1 hB1) ?_;rintro _ w2 ⟨rfl,hc2⟩;have s2:=s1.old hc2;by_cases hcl:Zbn g
 ·rw[Zc5.2 hcl];have y2:=(s2.box 0 rfl).1;have y20:=y2.1;have y21:=y2.2.1;have y22:=y2.2.2.1;have y23:=y2.2.2.2.1;have y24:=y2.2.2.2.2.1;unfold Zn.b1_3;simp -dsimp[go_sem,y20,y21,y22,y23,y24];clear y2 y20 y21 y22 y23 y24;refine Zi (of_ct (Zx hg1 (hc2.below hB1 λ _ _=>id)) (by have:=hc2.size;omega) hcl.prods.c1 λ p hp=>(Zd7 hcl p hp).1) ?_;rintro _ w3 ⟨mb,B4,d4,rfl,hc3,hm⟩;have s3:=s2.old hc3;have hrb:w3.heap[q+1]?=some (.cells #[.slice none 0 0,.int .i64 0,.int .i64 0] 34 (0,0)):=by
   obtain ⟨F,h,_⟩:=s3.get (k:=1) rfl;exact h.2
  have hc03:Chg noB w w3:=s3.chg;have t1:St (·=q+1) w3 w3 [rbC (q+1)]:=St.one ⟨rfl,hrb⟩;have t2:=((((t1.mapV Tryz.prog kStr 9).alloc #[.slice none 0 0,.int .i64 0,.int .i64 0,.map (some w3.heap.size)] 86).lit 89 2 1 #[.int .i64 0,.int .i64 0] (by simp[maxLen]) rfl).push (c:=Ch.all (([]:List SR).map λ x=>qC 2 x.1 x.2.2.1.length x.2.1 (x.2.2.1.flatMap itV))) ⟨λ _=>0,λ i h=>absurd rfl h,λ k c h=>by simp at h⟩).nilRow 95 2;have e2:(w3.alloc (.map #[] 0)).heap.size=w3.heap.size+1:=by simp
  have e3:((w3.alloc (.map #[] 0)).alloc (.cells #[.slice none 0 0,.int .i64 0,.int .i64 0,.map (some w3.heap.size)] 86)).heap.size=w3.heap.size+1+1:=by simp
  rw[e2,e3]at t2;unfold Zn.b1_2;simp -dsimp[go_sem,mkStr,↓bTab,↓ZZ192];generalize ((w3.alloc (.map #[] 0)).alloc (.cells #[.slice none 0 0,.int .i64 0,.int .i64 0,.map (some w3.heap.size)] 86)).alloc (.cells #[.int .i64 0,.int .i64 0] 89)=w4 at t2 |-;obtain ⟨vat,hvat⟩:∃vm,Value.map (some w3.heap.size)=vm:=⟨_,rfl⟩;rw[hvat]at t2;have hqs:q+1<w3.heap.size:=(Qw.1 hrb).1;generalize htbe:w3.heap.size+1=tb at t2 |-;have htb:tb+1 > q+1+1:=by omega
  have t3:St (·=q+1) w3 w4 (tabL Tryz.prog tb none 0 vat 0 0 []++[rbC (q+1),rowC 89 2 (some ⟨tb+1,0,none⟩) 1 1 [.int .i64 0,.int .i64 0]]):=by
   refine t2.pick [2,1,5,4,0,3] (by decide) ?_;have e:fK ([]:List SR)=λ _=>none:=funext λ s=>rfl;unfold tabL;rw[e];rfl
  have t4:=t3.turn (k:=5) rfl (d:=qC 2 ⟨tb+1,0,none⟩ 1 1 [.int .i64 0,.int .i64 0]) λ F h=>Znk h;have t4:St (·=q+1) w3 w4 (tabL Tryz.prog tb none 0 vat 0 0 []++[rbC (q+1),qC 2 ⟨tb+1,0,none⟩ ([((0,0):It)].length) 1 ([((0,0):It)].flatMap itV)]):=t4;refine Zi (Zoe (l:=[((0,0):It)]) (K:=[]) (a:=⟨tb+1,0,none⟩) (c:=1) (m:=0) (asked:=0) (Ast:=none) (cst:=0) t4 (jm:=1) rfl (by simp) (by simp) (by simp) (by intro x hx;simp at hx;subst hx;simp) (by simp) (by simp) (by simp) (by simp)) ?_;rintro _ w5 ⟨A5,c5,m5,asked5,K5,hm5,⟨j5,rfl,_⟩,t5,hK5⟩;rcases hK5 with ⟨_,x,hx,_⟩|⟨hK5,_⟩
  ·cases hx
  have hKok:KOk g.prods K5 0:=by
   subst hK5;exact ⟨BldI.first (Zd9 hcl).2,by simp,by simp⟩
  have t6:=t5.take 5;have t6:=t6.push (c:=Ch.all (([]:List EK').map edC)) ⟨λ _=>0,λ i h=>absurd rfl h,λ k c h=>by simp at h⟩;have t6:St (·=q+1) w3 w5 (tabL Tryz.prog tb A5 c5 vat m5 asked5 K5++[rbC (q+1),Ch.all (([]:List EK').map edC)]):=t6;have hlK:0<K5.length:=by subst hK5;simp
  unfold Zn.b4;have hP:=hcl.prods.c1;have hup:∀w',Chg (·=q+1) w3 w'->Chg noB w w':=λ w' hc=>hc03.trans' hc λ i hi e=>by omega
  refine Zn.l6_intro _ _ _ _ _ _ (λ y w'=>∃(i m:Nat) (Ast:Option Addr) (cst:Nat) (asked:Int) (K:List SR) (ES:List EK'),y = .int .i64 i/\i<=K.length/\m<=30000*i+1/\KOk g.prods K i/\EdI g.prods K ES i/\St (·=q+1) w3 w' (tabL Tryz.prog tb Ast cst vat m asked K++[rbC (q+1),Ch.all (ES.map edC)])) (λ y _=>300-iv y)
   ⟨0,m5,A5,c5,asked5,K5,[],rfl,by omega,by omega,hKok,⟨rfl,by subst hK5;exact BfI.first,λ j x e hj=>by omega⟩,t6⟩ ?_
  rintro _ w6 ⟨i,m,Ast,cst,asked,K,ES,rfl,hi,hmm,hK,hEd,s6⟩ C hC;have hlK:=hK.len;have wi:=wS i (by omega);have y6:=(s6.box 0 rfl).1;have y60:=y6.1;unfold Zn.b7;simp -dsimp[go_sem,y60];refine Za (λ p1=>?_) (λ p1=>?_)<;>simp at p1
  ·refine Zpx hm hP (Zy6 hcl) hEd hrb s6 hK p1 hmm (λ w' hc hb=>hR _ _ ⟨hup _ hc,Or.inr (Or.inl ⟨⟨hcl,hb⟩,rfl⟩)⟩) λ w' Ast' cst' m' asked' K' ES' h1 h2 h3 hE' h4=>?_;unfold Zn.b9;simp -dsimp[go_sem,wi];exact hC _ _ ⟨i+1,m',Ast',cst',asked',K',ES',by simp,by omega,by omega,h2,hE',h4⟩ (by simp[iv];omega)
  ·have hie:i=K.length:=by omega
   subst hie;unfold Zn.b3;simp -dsimp[go_sem,y60];clear y6 y60;obtain ⟨_,hnc,_⟩:=s6.rowSize 2 rfl;refine Zi (Zyx hnc) ?_;rintro _ _ ⟨rfl,rfl⟩;have y6:=(s6.box 0 rfl).1;have f6:=(s6.box 0 rfl).2.1;have y60:=y6.1;have y61:=y6.2.1;have y62:=y6.2.2.1;have z6:=(s6.box 4 rfl).1;have z60:=z6.1;have z61:=z6.2.1;have z62:=z6.2.2.1;have g6:=(s6.box 4 rfl).2.1;have s7:=s6.set 0 rfl 0 (.slice Ast K.length K.length);have hne:(q+1=tb)=False:=by
    have h1:tb+1 > q+1+1:=htb;simp;omega
   have s8:=((s7.set 4 rfl 0 (.slice Ast K.length K.length)).set 4 rfl 1 (.int .i64 asked)).set 4 rfl 2 (.int .i64 K.length);unfold Zn.b3_1;simp -dsimp[go_sem,y60,y61,y62,f6,z60,z61,z62,g6,hne];generalize (((w6.setCell ⟨tb,0,none⟩ (.slice Ast K.length K.length)).setCell ⟨q+1,0,none⟩ (.slice Ast K.length K.length)).setCell ⟨q+1,1,none⟩ (.int .i64 asked)).setCell ⟨q+1,2,none⟩ (.int .i64 K.length)=w8 at s8 |-;have hkl:(ksOf K).length=K.length:=Qp ..;refine hR _ _ ⟨hup _ s8.chg,Or.inr (Or.inr ⟨hcl,Ast,K.length,asked,ksOf K,ES.map (·.2.2),by rw[hkl],BldI.fin (hkl ▸ hK.bld),by omega,λ l hl=>?_,λ i l hi=>?_,hK.bld.start,⟨by rw[Qp,hEd.len,hkl],by rw[hkl];exact hEd.bf,λ j l es hl hes=>?_⟩,λ j es hes=>?_⟩)⟩
   ·obtain ⟨x,hx,rfl⟩:=Qr.1 hl;obtain ⟨j,hj⟩:=Qo.1 hx;obtain ⟨_,_,h3,_,_,h6,h7⟩:=hK.kernel hP hj;refine ⟨h3,h6,hK.ne x hx,h7,λ y hy=>?_⟩;have:=hK.bld.dot j x.2.2.1 (by unfold ksOf;rw[Qh,hj];rfl) y hy;have h8:=(Qa.1 hj).1;have h9:=hK.len;omega
   ·unfold ksOf at hi;rw[Qh]at hi;obtain ⟨x,hx,rfl⟩:=Q4.1 hi;obtain ⟨F,ho,_⟩:=s8.get (k:=2) rfl;obtain ⟨gs,es,hst,_⟩:=Zck ho (λ _ _=>rfl) (by decide) hx;have st0:=hst 0 _ rfl;simp only[Qb3,kerV]at st0;obtain ⟨F3,s3k,_⟩:=s8.inAll' 3 rfl;exact ⟨gs,x.1,x.2.1,es,st0,ZZ42 s3k i (a:=x.1) (n:=x.2.2.1.length) (c:=x.2.1) (l:=x.2.2.1) (by rw[Qh,hx];rfl)⟩
   ·unfold ksOf at hl;rw[Qh]at hl hes;obtain ⟨x,hx,rfl⟩:=Q4.1 hl;obtain ⟨e,he,rfl⟩:=Q4.1 hes;exact (hEd.val j x e (Qa.1 hx).1 hx he).2
   ·rw[Qh]at hes;obtain ⟨e,he,rfl⟩:=Q4.1 hes;have hjl:j<K.length:=by
     have:=(Qa.1 he).1;rw[hEd.len]at this;exact this
    have hx:K[j]?=some K[j]:=Qb hjl;obtain ⟨hv,_⟩:=hEd.val j K[j] e hjl hx he;obtain ⟨F,ho,_⟩:=s8.get (k:=2) rfl;obtain ⟨gs,es,hst,_⟩:=Zck ho (λ _ _=>rfl) (by decide) hx;have st0:=hst 1 _ rfl;rw[hv]at st0;obtain ⟨F3,s3k,_⟩:=s8.inAll' 5 rfl;obtain ⟨F4,ho4,_⟩:=s3k.get (k:=j) (c:=edC e) (by rw[Qh,he];rfl);have hcap:=Zee ho4;exact ⟨gs,e.1,es,st0,Zki (r:=Zj8) (enc:=edV) ho4 rfl (λ _ _=>rfl) (by decide) (λ _ _ _=>rfl) (Ql _) (by omega)⟩
 ·rw[Zeg Zc5 hcl];have f2:=(s2.box 1 rfl).2.1;have y2:=(s2.box 1 rfl).1;have s3:=(((s2.set 1 rfl 0 (.slice none 0 0)).set 1 rfl 1 (.int .i64 0)).set 1 rfl 2 (.int .i64 0));have y3:=(s3.box 1 rfl).1;have y30:=y3.1;have y31:=y3.2.1;have y32:=y3.2.2.1;have y20:=y2.1;have y21:=y2.2.1;have y22:=y2.2.2.1;unfold Zn.b1_1;simp -dsimp[go_sem,f2,y20,y21,y22];exact hR _ _ ⟨s3.chg,Or.inl ⟨hcl,rfl⟩⟩
end Go.Proofs.YtjibcckpehdbhaaGreatDoor
namespace Go.Px.Cn
open Go.Px
inductive Nul (P:Prs):Int->Prop
 | mk {p:Nat}:p<P.length->(∀s∈rgt P p,Nul P s)->Nul P (lft P p)
inductive Fst (nT:Nat) (P:Prs):Int->Nat->Prop
 | term {u:Nat}:u<nT->Fst nT P (u:Int) u
 | non {p:Nat} {α β:List Int} {X:Int} {u:Nat}:p<P.length->rgt P p=α++X::β->(∀s∈α,Nul P s)->Fst nT P X u->Fst nT P (lft P p) u
def Zfm (nT:Nat)(P:Prs)(r:List Int)(u:Nat):Prop:=∃α X β,r=α++X::β/\(∀s∈α,Nul P s)/\Fst nT P X u
def FIp (nT:Nat)(P:Prs)(rest:List Int)(t u:Nat):Prop:=Zfm nT P rest u\/((∀s∈rest,Nul P s)/\u=t)
section
variable {nT:Nat} {P:Prs}
theorem Zfm.cons {s:Int}{r:List Int}{u:Nat}(h:Nul P s)(h2:Zfm nT P r u):Zfm nT P (s::r) u:=by
 obtain ⟨α,X,β,rfl,h3,h4⟩:=h2;exact ⟨s::α,X,β,rfl,λ x hx=>by rcases Qaa.1 hx with rfl | hx;exact h;exact h3 x hx,h4⟩
theorem Zfm.head {X:Int}{r:List Int}{u:Nat}(h:Fst nT P X u):Zfm nT P (X::r) u:=⟨[],X,r,rfl,by simp,h⟩
theorem Zfm.inv {s:Int}{r:List Int}{u:Nat}(h:Zfm nT P (s::r) u):Fst nT P s u\/(Nul P s/\Zfm nT P r u):=by
 obtain ⟨α,X,β,he,h3,h4⟩:=h
 cases α with
 | nil=>injection he with h1 h2;subst h1;exact Or.inl h4
 | cons a α=>injection he with h1 h2;subst h1;exact Or.inr ⟨h3 _ (by simp),α,X,β,h2,λ x hx=>h3 x (by simp[hx]),h4⟩
theorem Zfm.nil {u:Nat}(h:Zfm nT P [] u):False:=by
 obtain ⟨α,X,β,he,_⟩:=h;simp at he
end
def Gt (P:Prs)(ks:List (List It))(q:Nat)(s:Int)(r:Nat):Prop:=∃l l',ks[q]?=some l/\ks[r]?=some l'/\(∃x,Go0 P (·∈l) s x)/\∀x,x∈l'↔Go0 P (·∈l) s x
def InCl (P:Prs)(ks:List (List It))(q:Nat)(x:It):Prop:=∃l,ks[q]?=some l/\Cl0 P (·∈l) x
def Tr (P:Prs)(ks:List (List It))(q:Nat)(s:Int):Prop:=∃x,InCl P ks q x/\aft P x=some s
def Wk (P:Prs)(ks:List (List It)):Nat->List Int->Nat->Prop
 | q,[],r=>q=r
 | q,s::l,r=>∃q1,Gt P ks q s q1/\Wk P ks q1 l r
inductive Hd (P:Prs) (FI:List Int->Nat->Nat->Prop) (ks:List (List It)):Nat->It->Nat->Prop
 | start:Hd P FI ks 0 (0,0) 0
 | go {q r:Nat} {x:It} {t:Nat} {s:Int}:Hd P FI ks q x t->aft P x=some s->Gt P ks q s r->Hd P FI ks r (x.1,x.2+1) t
 | cl {q:Nat} {x:It} {t u p:Nat} {s:Int}:Hd P FI ks q x t->aft P x=some s->p<P.length->lft P p=s->FI ((rgt P x.1).drop (x.2+1)) t u->Hd P FI ks q (p,0) u
inductive Rd (nT:Nat) (P:Prs) (ks:List (List It)):Nat->Int->Nat->Prop
 | dr {q r:Nat} {A:Int} {t:Nat}:Gt P ks q A r->t<nT->Tr P ks r (t:Int)->Rd nT P ks q A t
 | fin {A:Int}:aft P (0,0)=some A->Rd nT P ks 0 A 0
 | rd {q r:Nat} {A C:Int} {t:Nat}:Gt P ks q A r->Nul P C->Tr P ks r C->Rd nT P ks r C t->Rd nT P ks q A t
inductive FlR (nT:Nat) (P:Prs) (ks:List (List It)):Nat->Int->Nat->Prop
 | rd {q:Nat} {A:Int} {t:Nat}:Rd nT P ks q A t->FlR nT P ks q A t
 | inc {p q q0:Nat} {β γ:List Int} {A:Int} {t:Nat}:0<p->p<P.length->rgt P p=β++A::γ->(∀s∈γ,Nul P s)->Wk P ks q0 β q->Tr P ks q0 (lft P p)->FlR nT P ks q0 (lft P p) t->FlR nT P ks q A t
structure Au (P:Prs)(ks:List (List It)):Prop extends Lr0 P ks where
 first:ks[0]?=some [(0,0)]
 pos:0<P.length
 right0:∃S,rgt P 0=[S]
 noS:∀x s,aft P x=some s->s≠lft P 0
section
variable {nT:Nat} {P:Prs} {ks:List (List It)} {FI:List Int->Nat->Nat->Prop}
theorem Gt.tr {q r:Nat}{s:Int}(h:Gt P ks q s r):Tr P ks q s:=by
 obtain ⟨l,l',h1,h2,⟨x,y,h3,h4,_⟩,_⟩:=h;exact ⟨y,⟨l,h1,h3⟩,h4⟩
theorem Gt.mem {q r:Nat}{s:Int}(h:Gt P ks q s r){x:It}(hx:InCl P ks q x)(ha:aft P x=some s):∃l,ks[r]?=some l/\(x.1,x.2+1)∈l:=by
 obtain ⟨l,l',h1,h2,_,h4⟩:=h;obtain ⟨l0,e,h5⟩:=hx;rw[h1]at e;injection e with e;subst e;exact ⟨l',h2,(h4 _).2 ⟨x,h5,ha,rfl⟩⟩
theorem Gt.inCl {q r:Nat}{s:Int}(h:Gt P ks q s r){x:It}(hx:InCl P ks q x)(ha:aft P x=some s):InCl P ks r (x.1,x.2+1):=by
 obtain ⟨l,h1,h2⟩:=h.mem hx ha;exact ⟨l,h1,.base h2⟩
theorem Gt.back {q r:Nat}{s:Int}(h:Gt P ks q s r){l:List It}(hl:ks[r]?=some l){z:It}(hz:z∈l):∃x,InCl P ks q x/\aft P x=some s/\z=(x.1,x.2+1):=by
 obtain ⟨l0,l',h1,h2,_,h4⟩:=h;rw[h2]at hl;injection hl with hl;subst hl;obtain ⟨y,h5,h6,h7⟩:=(h4 z).1 hz;exact ⟨y,⟨l0,h1,h5⟩,h6,h7⟩
theorem Au.gt (h:Au P ks){q:Nat}{s:Int}(ht:Tr P ks q s):∃r,Gt P ks q s r:=by
 obtain ⟨x,⟨l,h1,h2⟩,h3⟩:=ht;have hne:∃x,Go0 P (·∈l) s x:=⟨_,x,h2,h3,rfl⟩;obtain ⟨l',h4,h5⟩:=h.go l (Qe h1) s hne;obtain ⟨r,hr⟩:=Qo.1 h4;exact ⟨r,l,l',h1,hr,hne,h5⟩
theorem Zer {α:Type}{l:List α}(h:l.Nodup){i j:Nat}{x:α}(hi:l[i]?=some x)(hj:l[j]?=some x):i=j:=by
 obtain ⟨h1,e1⟩:=Qa.1 hi;obtain ⟨h2,e2⟩:=Qa.1 hj;exact (List.getElem_inj h).1 (e1.trans e2.symm)
theorem Au.uniq (h:Au P ks){q r r':Nat}{s:Int}(h1:Gt P ks q s r)(h2:Gt P ks q s r'):r=r':=by
 obtain ⟨l,l1,a1,a2,_,a4⟩:=h1;obtain ⟨m,l2,b1,b2,_,b4⟩:=h2;rw[a1]at b1;injection b1 with b1;subst b1;have e:l1=l2:=Zkp (h.srt _ (Qe a2)) (h.srt _ (Qe b2)) λ x=>(a4 x).trans (b4 x).symm;subst e;exact Zer h.nd a2 b2
theorem Wk.snoc {q1 r:Nat}{s:Int}:∀{l:List Int} {q:Nat},Wk P ks q l q1->Gt P ks q1 s r->Wk P ks q (l++[s]) r
 | [],q,h,h2=>by cases h;exact ⟨r,h2,rfl⟩
 | a::l,q,⟨q2,h3,h4⟩,h2=>⟨q2,h3,Wk.snoc h4 h2⟩
theorem Wk.split:∀{l l':List Int} {q r:Nat},Wk P ks q (l++l') r->∃q1,Wk P ks q l q1/\Wk P ks q1 l' r
 | [],l',q,r,h=>⟨q,rfl,h⟩
 | a::l,l',q,r,⟨q2,h3,h4⟩=>by obtain ⟨q1,h5,h6⟩:=Wk.split h4;exact ⟨q1,⟨q2,h3,h5⟩,h6⟩
theorem Au.wuniq (h:Au P ks):∀{l:List Int} {q r r':Nat},Wk P ks q l r->Wk P ks q l r'->r=r'
 | [],q,r,r',h1,h2=>by cases h1;cases h2;rfl
 | a::l,q,r,r',⟨q1,h1,h2⟩,⟨q2,h3,h4⟩=>by
  have:=h.uniq h1 h3
  subst this
  exact h.wuniq h2 h4
theorem ZZ11 {x:It}{s:Int}(h:aft P x=some s):x.2<(rgt P x.1).length:=(Qa.1 h).1
theorem Zga {x:It}{s:Int}(h:aft P x=some s):(rgt P x.1).drop x.2=s::(rgt P x.1).drop (x.2+1):=by
 obtain ⟨h1,h2⟩:=Qa.1 h;rw[<-h2];exact List.drop_eq_getElem_cons h1
theorem Au.begun (h:Au P ks){p:Nat}:∀{k q:Nat},0<p->InCl P ks q (p,k)->∃q0,Wk P ks q0 ((rgt P p).take k) q/\InCl P ks q0 (p,0)/\Tr P ks q0 (lft P p)/\p<P.length
 | 0,q,hp,hx=>by
  refine ⟨q,rfl,hx,?_⟩
  obtain ⟨l,hl,hc⟩:=hx
  cases hc with
  | base hm=>
   rcases (h.r0 l (Qe hl)).dots with h1|h1
   ·have:=(h1 _).1 hm
    injection this with h2;omega
   ·exact absurd (h1 _ hm) (Qbo 0)
  | @step x s _ h1 h2 h3 h4=>subst h4;exact ⟨⟨x,⟨l,hl,h1⟩,h2⟩,h3⟩
 | k+1,q,hp,hx=>by
  obtain ⟨l,hl,hc⟩:=hx
  have hm:=hc.dot (Nat.succ_pos k)
  have hr:=h.r0 l (Qe hl)
  obtain ⟨K,hK,s,hg⟩:∃K:It->Prop,R0 P K/\∃s,(∀x,x∈l↔Go0 P K s x):=by
   generalize e:(λ x=>x∈l)=K0 at hr
   cases hr with
   | start=>have:=(congrFun e (p,k+1)).mp hm;injection this with h1 h2;simp at h2
   | @step K s h1 h2=>exact ⟨K,h1,s,λ x=>by rw[show (x∈l)=Go0 P K s x from congrFun e x]⟩
  obtain ⟨l0,h1,h2⟩:=h.toLr0.all hK
  obtain ⟨q1,hq1⟩:=Qo.1 h1
  have hgt:Gt P ks q1 s q:=⟨l0,l,hq1,hl,⟨_,(Go0.congr h2 s _).2 ((hg _).1 hm)⟩,λ x=>(hg x).trans (Go0.congr (λ x=>h2 x) s x).symm⟩
  obtain ⟨y,hy,ha,e⟩:=hgt.back hl hm
  injection e with e1 e2
  have hye:y=(p,k):=by obtain ⟨a,b⟩:=y;simp at e1 e2;rw[e1,e2]
  subst hye
  obtain ⟨q0,w0,w1,w2,w3⟩:=h.begun hp hy
  refine ⟨q0,?_,w1,w2,w3⟩
  have:(rgt P p).take (k+1)=(rgt P p).take k++[s]:=by
   unfold aft at ha;rw[List.take_add_one,ha];rfl
  rw[this]
  exact w0.snoc hgt
theorem Au.along (h:Au P ks){p q0:Nat}(hx:InCl P ks q0 (p,0)):∀(k:Nat),k<=(rgt P p).length->∃q,Wk P ks q0 ((rgt P p).take k) q/\InCl P ks q (p,k)
 | 0,_=>⟨q0,rfl,hx⟩
 | k+1,hk=>by
  obtain ⟨q,h1,h2⟩:=h.along hx k (by omega)
  have ha:aft P (p,k)=some ((rgt P p)[k]'hk):=Qb hk
  obtain ⟨r,hr⟩:=h.gt ⟨_,h2,ha⟩
  refine ⟨r,?_,hr.inCl h2 ha⟩
  rw[Qd (by omega)]
  exact h1.snoc hr
theorem Au.cl (_h:Au P ks){q p:Nat}(hp:p<P.length)(ht:Tr P ks q (lft P p)):InCl P ks q (p,0):=by
 obtain ⟨x,⟨l,h1,h2⟩,h3⟩:=ht;exact ⟨l,h1,.step h2 h3 hp rfl⟩
theorem Hd.inCl (h:Au P ks){q t:Nat}{x:It}(hx:Hd P FI ks q x t):InCl P ks q x:=by
 induction hx with
 | start=>exact ⟨_,h.first,.base (by simp)⟩
 | go _ h2 h3 ih=>exact h3.inCl ih h2
 | cl _ h2 h3 h4 _ ih=>subst h4;exact h.cl h3 ⟨_,ih,h2⟩
def Rs (nT:Nat)(P:Prs)(ks:List (List It))(r t:Nat):Prop:=(t<nT/\Tr P ks r (t:Int))\/∃C,Nul P C/\Tr P ks r C/\Rd nT P ks r C t
theorem Rs.rd {q r t:Nat}{A:Int}(h:Gt P ks q A r)(hr:Rs nT P ks r t):Rd nT P ks q A t:=by
 rcases hr with ⟨h1,h2⟩|⟨C,h1,h2,h3⟩
 ·exact .dr h h1 h2
 ·exact .rd h h1 h2 h3
theorem Au.reads (h:Au P ks){X:Int}{t:Nat}(hf:Fst nT P X t):∀(α β:List Int) (r:Nat) (y:It),InCl P ks r y->(rgt P y.1).drop y.2=α++X::β->(∀s∈α,Nul P s)->Rs nT P ks r t:=by
 induction hf with
 | @term u hu=>
  intro α
  induction α with
  | nil=>
   intro β r y hy he _;refine Or.inl ⟨hu,y,hy,?_⟩;unfold aft;have:((rgt P y.1).drop y.2)[0]?=some (u:Int):=by rw[he];rfl
   rwa [Qbp,Qb3]at this
  | cons C α ih=>
   intro β r y hy he hn;have ha:aft P y=some C:=by
    have:((rgt P y.1).drop y.2)[0]?=some C:=by rw[he];rfl
    rwa [Qbp,Qb3]at this
   obtain ⟨r',hr'⟩:=h.gt ⟨y,hy,ha⟩;have he2:=Zga ha;rw[he]at he2;injection he2 with _ he2;have:=ih β r' (y.1,y.2+1) (hr'.inCl hy ha) he2.symm (λ s hs=>hn s (by simp[hs]));exact Or.inr ⟨C,hn C (by simp),⟨y,hy,ha⟩,this.rd hr'⟩
 | @non p α' β' X' u hp he' hn' hf' ihf=>
  intro α
  induction α with
  | nil=>
   intro β r y hy he _;have ha:aft P y=some (lft P p):=by
    have:((rgt P y.1).drop y.2)[0]?=some (lft P p):=by rw[he];rfl
    rwa [Qbp,Qb3]at this
   exact ihf α' β' r (p,0) (h.cl hp ⟨y,hy,ha⟩) he' hn'
  | cons C α ih=>
   intro β r y hy he hn;have ha:aft P y=some C:=by
    have:((rgt P y.1).drop y.2)[0]?=some C:=by rw[he];rfl
    rwa [Qbp,Qb3]at this
   obtain ⟨r',hr'⟩:=h.gt ⟨y,hy,ha⟩;have he2:=Zga ha;rw[he]at he2;injection he2 with _ he2;have:=ih β r' (y.1,y.2+1) (hr'.inCl hy ha) he2.symm (λ s hs=>hn s (by simp[hs]));exact Or.inr ⟨C,hn C (by simp),⟨y,hy,ha⟩,this.rd hr'⟩
theorem Zzk {l α β:List Int}{A:Int}(h:l=α++A::β):l.take α.length=α/\l[α.length]?=some A/\l.drop (α.length+1)=β:=by
 subst h;refine ⟨by simp,by simp,?_⟩;rw[List.drop_append];simp
theorem Au.snd (h:Au P ks){q t:Nat}{x:It}(hx:Hd P (FIp nT P) ks q x t):(x.1=0->t=0/\(x.2=0->q=0))/\(0<x.1->∃q0,Wk P ks q0 ((rgt P x.1).take x.2) q/\Tr P ks q0 (lft P x.1)/\x.1<P.length/\FlR nT P ks q0 (lft P x.1) t):=by
 induction hx with
 | start=>exact ⟨λ _=>⟨rfl,λ _=>rfl⟩,λ h=>absurd h (Qbo 0)⟩
 | @go q r x t s h1 h2 h3 ih=>
  refine ⟨λ h0=>⟨(ih.1 h0).1,λ h0=>by simp at h0⟩,λ h0=>?_⟩;obtain ⟨q0,w0,w1,w2,w3⟩:=ih.2 h0;refine ⟨q0,?_,w1,w2,w3⟩;have:(rgt P x.1).take (x.2+1)=(rgt P x.1).take x.2++[s]:=by
   unfold aft at h2;rw[List.take_add_one,h2];rfl
  simp only;rw[this];exact w0.snoc h3
 | @cl q x t u p s h1 h2 h3 h4 h5 ih=>
  have hic:=h1.inCl h;refine ⟨λ h0=>?_,λ h0=>?_⟩
  ·simp only at h0;subst h0;exact absurd h4.symm (h.noS x s h2)
  ·subst h4;have htr:Tr P ks q (lft P p):=⟨x,hic,h2⟩;refine ⟨q,rfl,htr,h3,?_⟩;rcases h5 with ⟨α,X,β,he,hn,hf⟩|⟨hn,rfl⟩
   ·obtain ⟨r,hr⟩:=h.gt htr;exact .rd ((h.reads hf α β r (x.1,x.2+1) (hr.inCl hic h2) he hn).rd hr)
   ·by_cases hz:x.1=0
    ·obtain ⟨rfl,h6⟩:=ih.1 hz;by_cases hd:x.2=0
     ·have:=h6 hd;subst this;exact .rd (.fin (by obtain ⟨a,b⟩:=x;simp at hz hd;subst hz hd;exact h2))
     ·exfalso
      exact hd (by
       obtain ⟨S,hS⟩:=h.right0
       have hl:=ZZ11 h2
       rw[hz,hS]at hl
       simpa using hl)
    ·obtain ⟨q0,w0,w1,w2,w3⟩:=ih.2 (by omega);have he:rgt P x.1=(rgt P x.1).take x.2++lft P p::(rgt P x.1).drop (x.2+1):=by
      rw[<-Zga h2,Qag]
     exact .inc (by omega) w2 he hn w0 w1 w3
theorem kern {q:Nat}{l:List It}(hl:ks[q]?=some l){y:It}(hy:Cl0 P (·∈l) y):∀{t:Nat},Zfm nT P ((rgt P y.1).drop y.2) t->∃z∈l,Zfm nT P ((rgt P z.1).drop z.2) t:=by
 induction hy with
 | base hm=>exact λ ht=>⟨_,hm,ht⟩
 | @step x s p h1 h2 h3 h4 ih=>
  intro t ht;subst h4;refine ih ?_;rw[Zga h2];obtain ⟨α,X,β,he,hn,hf⟩:=ht;exact Zfm.head (.non h3 (by simpa using he) hn hf)
theorem Au.rd_next (h:Au P ks){q t:Nat}{A:Int}(hr:Rd nT P ks q A t):(∃x,InCl P ks q x/\aft P x=some A/\Zfm nT P ((rgt P x.1).drop (x.2+1)) t)\/(q=0/\aft P (0,0)=some A/\t=0):=by
 induction hr with
 | @dr q r A t h1 h2 h3=>
  left;obtain ⟨y,⟨l,hl,hy⟩,ha⟩:=h3;obtain ⟨z,hz,hf⟩:=kern (nT:=nT) hl hy (t:=t) (by rw[Zga ha];exact Zfm.head (.term h2));obtain ⟨x,hx,hax,rfl⟩:=h1.back hl hz;exact ⟨x,hx,hax,hf⟩
 | fin h1=>exact Or.inr ⟨rfl,h1,rfl⟩
 | @rd q r A C t h1 h2 h3 h4 ih=>
  left;rcases ih with ⟨y,⟨l,hl,hy⟩,ha,hf⟩|⟨rfl,_,_⟩
  ·obtain ⟨z,hz,hf⟩:=kern (nT:=nT) hl hy (t:=t) (by rw[Zga ha];exact hf.cons h2);obtain ⟨x,hx,hax,rfl⟩:=h1.back hl hz;exact ⟨x,hx,hax,hf⟩
  ·obtain ⟨l,l',_,h6,⟨z,hz⟩,h8⟩:=h1;rw[h.first]at h6;injection h6 with h6;subst h6;have h9:=(h8 z).2 hz;obtain ⟨x,_,_,rfl⟩:=hz;simp at h9
theorem Hd.wk {p t:Nat}:∀{k q0 q:Nat},Hd P FI ks q0 (p,0) t->k<=(rgt P p).length->Wk P ks q0 ((rgt P p).take k) q->Hd P FI ks q (p,k) t
 | 0,q0,q,h,_,hw=>by cases hw;exact h
 | k+1,q0,q,h,hk,hw=>by
  rw[Qd (by omega)]at hw
  obtain ⟨q1,w1,q2,w2,w3⟩:=hw.split
  cases w3
  exact .go (h.wk (by omega) w1) (Qb (Nat.lt_of_succ_le hk)) w2
theorem Au.cmp (h:Au P ks)(hne:∀q x,InCl P ks q x->∃t,Hd P (FIp nT P) ks q x t){q t:Nat}{A:Int}(hf:FlR nT P ks q A t):∃x t',Hd P (FIp nT P) ks q x t'/\aft P x=some A/\FIp nT P ((rgt P x.1).drop (x.2+1)) t' t:=by
 induction hf with
 | @rd q A t hr=>
  rcases h.rd_next hr with ⟨x,hx,ha,hf⟩|⟨rfl,ha,rfl⟩
  ·obtain ⟨t',ht⟩:=hne q x hx;exact ⟨x,t',ht,ha,Or.inl hf⟩
  ·refine ⟨(0,0),0,.start,ha,Or.inr ⟨?_,rfl⟩⟩;obtain ⟨S,hS⟩:=h.right0
   show ∀s∈(rgt P 0).drop 1,_
   rw[hS];simp
 | @inc p q q0 β γ A t h1 h2 h3 h4 h5 h6 h7 ih=>
  obtain ⟨x,t',hx,ha,hfi⟩:=ih;have h8:Hd P (FIp nT P) ks q0 (p,0) t := .cl hx ha h2 rfl hfi;obtain ⟨e1,e2,e3⟩:=Zzk h3;have hl:β.length<=(rgt P p).length:=by rw[h3];simp
  have h9:=h8.wk hl (by rw[e1];exact h5);exact ⟨(p,β.length),t,h9,e2,Or.inr ⟨by rw[e3];exact h4,rfl⟩⟩
theorem Au.look (h:Au P ks)(hne:∀q x,InCl P ks q x->∃t,Hd P (FIp nT P) ks q x t){q p t:Nat}(hp:0<p):Hd P (FIp nT P) ks q (p,(rgt P p).length) t↔p<P.length/\∃q0,Wk P ks q0 (rgt P p) q/\Tr P ks q0 (lft P p)/\FlR nT P ks q0 (lft P p) t:=by
 constructor
 ·intro hx;obtain ⟨q0,h1,h2,h3,h4⟩:=(h.snd hx).2 hp;exact ⟨h3,q0,by simpa using h1,h2,h4⟩
 ·rintro ⟨hl,q0,h1,h2,h3⟩;obtain ⟨x,t',hx,ha,hf⟩:=h.cmp hne h3;exact (Hd.cl hx ha hl rfl hf).wk (Ql _) (by simpa using h1)
end
section
variable {nT:Nat} {P:Prs} {ks:List (List It)} {FI:List Int->Nat->Nat->Prop} {sts:List (List It1)}
theorem R1.clo {S:It1->Prop}(h:R1 P FI S){x:It}{t:Nat}{s:Int}{p u:Nat}(hx:S (x,t))(ha:aft P x=some s)(hp:p<P.length)(hl:lft P p=s)(hf:FI ((rgt P x.1).drop (x.2+1)) t u):S ((p,0),u):=by
 cases h with
 | start=>exact .step hx ha hp hl hf
 | step _ _=>exact .step hx ha hp hl hf
theorem Au.same (h:Au P ks){q q':Nat}{l l':List It}(hq:ks[q]?=some l)(hq':ks[q']?=some l')(he:∀x,Cl0 P (·∈l) x↔Cl0 P (·∈l') x):q=q':=by
 have hl:=Qe hq;have hl':=Qe hq';have e:=Zkp (h.srt l hl) (h.srt l' hl') ((h.r0 l hl).inj (h.r0 l' hl') he);subst e;exact Zer h.nd hq hq'
theorem Au.canon (h:Au P ks)(hF:∀x s t,aft P x=some s->∃u,FI ((rgt P x.1).drop (x.2+1)) t u)(h1:Lr1 P FI sts){q t:Nat}{x:It} :
  Hd P FI ks q x t↔∃l,ks[q]?=some l/\∃a∈sts,(∀y,Core (·∈a) y↔Cl0 P (·∈l) y)/\(x,t)∈a:=by
 constructor
 ·intro hx
  induction hx with
  | start=>
   obtain ⟨a,ha,he⟩:=h1.start;refine ⟨_,h.first,a,ha,λ y=>?_,(he _).2 (.base rfl)⟩;have:=Zgb hF y;rw[<-Cl0.congr (K:=λ x=>x=(0,0)) (λ x=>by simp) y,<-this];exact ⟨λ ⟨t,ht⟩=>⟨t,(he _).1 ht⟩,λ ⟨t,ht⟩=>⟨t,(he _).2 ht⟩⟩
  | @go q r x t s hx ha hg ih=>
   obtain ⟨l,hl,a,hm,hc,hxa⟩:=ih;obtain ⟨l0,l',e1,e2,_,e4⟩:=hg;rw[hl]at e1;injection e1 with e1;subst e1;have hgo:Go1 P (·∈a) s ((x.1,x.2+1),t):=⟨x,hxa,ha,rfl⟩;obtain ⟨a',ha',he'⟩:=h1.go a hm s ⟨_,hgo⟩;refine ⟨l',e2,a',ha',λ y=>?_,(he' _).2 (.base hgo)⟩;have:=Zf8 hF hc s y;rw[Cl0.congr (K':=(·∈l')) (λ x=>(e4 x).symm) y]at this;rw[<-this];exact ⟨λ ⟨t,ht⟩=>⟨t,(he' _).1 ht⟩,λ ⟨t,ht⟩=>⟨t,(he' _).2 ht⟩⟩
  | @cl q x t u p s hx ha hp hl hf ih=>
   obtain ⟨l,hl',a,hm,hc,hxa⟩:=ih;exact ⟨l,hl',a,hm,hc,(h1.r1 a hm).clo hxa ha hp hl hf⟩
 ·rintro ⟨l,hl,a,ha,hc,hx⟩;have key:∀{S:It1->Prop},R1 P FI S->∀{q:Nat} {l:List It},ks[q]?=some l->(∀y,Core S y↔Cl0 P (·∈l) y)->∀z,S z->Hd P FI ks q z.1 z.2:=by
   intro S hS
   induction hS with
   | start=>
    intro q l hl hc z hz;have hq:q=0:=h.same hl h.first λ y=>by
     rw[<-hc y,Zgb hF y];exact Cl0.congr (λ x=>by simp) y
    subst hq
    induction hz with
    | base h1=>subst h1;exact .start
    | step _ h2 h3 h4 h5 ih=>exact .cl ih h2 h3 h4 h5
   | @step S s hS hne ih=>
    intro q l hl hc z hz;obtain ⟨K,hK,hcK⟩:=hS.core hF;obtain ⟨l1,hl1,he1⟩:=h.toLr0.all hK;obtain ⟨q1,hq1⟩:=Qo.1 hl1;have hcS:∀y,Core S y↔Cl0 P (·∈l1) y:=λ y=>(hcK y).trans (Cl0.congr (λ x=>(he1 x).symm) y);have ih1:=ih hq1 hcS;have hgn:∃x,Go0 P (·∈l1) s x:=by
     obtain ⟨z,hz⟩:=hne;exact ⟨z.1,(Zmm hcS s z.1).1 ⟨z.2,hz⟩⟩
    obtain ⟨l',hl',he'⟩:=h.go l1 hl1 s hgn;obtain ⟨r,hr⟩:=Qo.1 hl';have hqr:q=r:=h.same hl hr λ y=>by
     rw[<-hc y,Zf8 hF hcS s y];exact Cl0.congr (λ x=>(he' x).symm) y
    subst hqr;have hgt:Gt P ks q1 s q:=⟨l1,l',hq1,hr,hgn,he'⟩
    induction hz with
    | @base z h1=>
     obtain ⟨y,h2,h3,h4⟩:=h1;obtain ⟨z1,z2⟩:=z;simp only at h2 h4;subst h4;exact .go (ih1 _ h2) h3 hgt
    | step _ h2 h3 h4 h5 ih=>exact .cl ih h2 h3 h4 h5
  exact key (h1.r1 a ha) hl hc (x,t) hx
theorem Au.held (h:Au P ks)(hF:∀x s t,aft P x=some s->∃u,FI ((rgt P x.1).drop (x.2+1)) t u){q:Nat}{x:It}(hx:InCl P ks q x):∃t,Hd P FI ks q x t:=by
 obtain ⟨l,hl,hc⟩:=hx;have key:∀{K:It->Prop},R0 P K->∀q l,ks[q]?=some l->(∀x,x∈l↔K x)->∀x,Cl0 P (·∈l) x->∃t,Hd P FI ks q x t:=by
  intro K hK
  induction hK with
  | start=>
   intro q l hl he x hx;have hq:q=0:=h.same hl h.first λ y=>Cl0.congr (λ x=>(he x).trans (by simp)) y;subst hq
   induction hx with
   | base h1=>have:=(he _).1 h1;subst this;exact ⟨0,.start⟩
   | step _ h2 h3 h4 ih=>obtain ⟨t,ht⟩:=ih;obtain ⟨u,hu⟩:=hF _ _ t h2;exact ⟨u,.cl ht h2 h3 h4 hu⟩
  | @step K s hK hne ih=>
   intro q l hl he x hx;obtain ⟨l1,hl1,he1⟩:=h.toLr0.all hK;obtain ⟨q1,hq1⟩:=Qo.1 hl1;have hgo:∀x,x∈l↔Go0 P (·∈l1) s x:=λ x=>(he x).trans (Go0.congr (λ x=>(he1 x).symm) s x);obtain ⟨w,hw⟩:=hne;have hgt:Gt P ks q1 s q:=⟨l1,l,hq1,hl,⟨w,(hgo w).1 ((he w).2 hw)⟩,hgo⟩
   induction hx with
   | base h1=>
    obtain ⟨y,⟨l2,hl2,h2⟩,h3,rfl⟩:=hgt.back hl h1;rw[hq1]at hl2;injection hl2 with hl2;subst hl2;obtain ⟨t,ht⟩:=ih q1 l1 hq1 he1 y h2;exact ⟨t,.go ht h3 hgt⟩
   | step _ h2 h3 h4 ih=>obtain ⟨t,ht⟩:=ih;obtain ⟨u,hu⟩:=hF _ _ t h2;exact ⟨u,.cl ht h2 h3 h4 hu⟩
 exact key (h.r0 l (Qe hl)) q l hl (λ _=>Iff.rfl) x hc
end
structure Zm9 (nT:Nat)(P:Prs)(null:List Bool)(has:List (List Bool)):Prop where
 nul:∀s,vanS nT null s=true->Nul P s
 fst:∀(i u:Nat),(has.getD i []).getD u false=true->Fst nT P (i:Int) u
section
variable {nT:Nat} {P:Prs} {null:List Bool} {has:List (List Bool)}
theorem mem_P {p:Nat}(hp:p<P.length):(lft P p,rgt P p,(P.getD p (0,[],0)).2.2)∈P:=by
 unfold lft rgt;rw[Qc,Qb hp];exact Qj hp
theorem Zvg (hc:∀p∈P,p.2.1.all (vanS nT null)=true->vanS nT null p.1=true)(hs:∀s,vanS nT null s=true->Nul P s)(s:Int):Nul P s↔vanS nT null s=true:=by
 refine ⟨λ h=>?_,hs s⟩
 induction h with
 | @mk p hp _ ih=>exact hc _ (mem_P hp) (Qar.2 ih)
theorem ZZ61 (hn:∀s,Nul P s↔vanS nT null s=true)(r:List Int):r.all (vanS nT null)=true↔∀s∈r,Nul P s:=by
 rw[Qar];exact ⟨λ h s hs=>(hn s).2 (h s hs),λ h s hs=>(hn s).1 (h s hs)⟩
theorem Zog (hn:∀s,Nul P s↔vanS nT null s=true)(hf:∀(i u:Nat),(has.getD i []).getD u false=true↔Fst nT P (i:Int) u):∀{r:List Int},(∀s∈r,0<=s)->∀u,fstB nT null has r u=true↔Zfm nT P r u
 | [],_,u=>⟨λ h=>by simp[fstB]at h,λ h=>h.nil.elim⟩
 | s::r,hr,u=>by
  have ih:=Zog hn hf (r:=r) (λ x hx=>hr x (by simp[hx])) u
  have h0:=hr s (by simp)
  have e:((s.toNat:Nat):Int)=s:=by omega
  have hs:=hf s.toNat u
  rw[e]at hs
  rw[fstB,Qbl,Qad,hs,ih,<-hn s]
  exact ⟨λ h=>h.elim Zfm.head λ h=>h.2.cons h.1,λ h=>h.inv⟩
theorem Zl8 (hn:∀s,vanS nT null s=true->Nul P s)(hf:∀(i u:Nat),(has.getD i []).getD u false=true->Fst nT P (i:Int) u):∀{r:List Int},(∀s∈r,0<=s)->∀u,fstB nT null has r u=true->Zfm nT P r u
 | [],_,u,h=>by simp[fstB]at h
 | s::r,hr,u,h=>by
  have h0:=hr s (by simp)
  have e:((s.toNat:Nat):Int)=s:=by omega
  rw[fstB,Qbl,Qad]at h
  rcases h with h|⟨h1,h2⟩
  ·have:=hf _ _ h
   rw[e]at this
   exact .head this
  ·exact (Zl8 hn hf (λ x hx=>hr x (by simp[hx])) u h2).cons (hn s h1)
theorem ZZ75 (hT:Zo0 nT P null has)(hS:Zm9 nT P null has)(h0:∀p∈P,∀s∈p.2.1,0<=s)(hl0:∀p∈P,0<=p.1):(∀s,Nul P s↔vanS nT null s=true)/\∀(i u:Nat),(has.getD i []).getD u false=true↔Fst nT P (i:Int) u:=by
 have hn:=Zvg hT.nul hS.nul;have key:∀{s:Int} {u:Nat},Fst nT P s u->0<=s->(has.getD s.toNat []).getD u false=true:=by
  intro s u h
  induction h with
  | @term u hu=>intro _;exact hT.term u hu
  | @non p α β X u hp he hnl hf ih=>
   intro _;have hm:=mem_P hp;refine hT.row _ hm u ?_
   show fstB nT null has (rgt P p) u=true
   have h0':∀s∈rgt P p,0<=s:=λ s hs=>h0 _ hm s hs;rw[he]at h0' |-;have hX:=ih (h0' X (by simp));clear he h0'
   induction α with
   | nil=>show fstB nT null has (X::β) u=true;rw[fstB,hX];rfl
   | cons a α iha=>
    show fstB nT null has (a::(α++X::β)) u=true
    rw[fstB,(hn a).1 (hnl a (by simp)),iha λ s hs=>hnl s (by simp[hs])];simp
 refine ⟨hn,λ i u=>⟨hS.fst i u,λ h=>?_⟩⟩;have:=key h (by omega);simpa using this
theorem ZZ112 (hT:Zo0 nT P null has)(hS:Zm9 nT P null has)(h0:∀p∈P,∀s∈p.2.1,0<=s)(hl0:∀p∈P,0<=p.1){r:List Int}(hr:∀s∈r,0<=s)(t u:Nat):FI nT null has r t u↔FIp nT P r t u:=by
 obtain ⟨hn,hf⟩:=ZZ75 hT hS h0 hl0;unfold FI FIp;rw[Zog hn hf hr u,ZZ61 hn]
end
section
variable {nT:Nat} {P:Prs} {ks:List (List It)} {FI FI':List Int->Nat->Nat->Prop}
theorem Hd.congr (h:∀x t u,FI ((rgt P x).drop t) u=FI' ((rgt P x).drop t) u){q t:Nat}{x:It}(hx:Hd P FI ks q x t):Hd P FI' ks q x t:=by
 induction hx with
 | start=>exact .start
 | go _ h1 h2 ih=>exact .go ih h1 h2
 | cl _ h1 h2 h3 h4 ih=>exact .cl ih h1 h2 h3 (by rw[<-h];exact h4)
theorem FlR.lt {q t:Nat}{A:Int}(h:FlR nT P ks q A t)(h0:0<nT):t<nT:=by
 induction h with
 | rd h=>
  induction h with
  | dr _ h _=>exact h
  | fin _=>exact h0
  | rd _ _ _ _ ih=>exact ih
 | inc _ _ _ _ _ _ _ ih=>exact ih
structure LkOk (P:Prs)(ks:List (List It))(T:Nat->Nat->Nat->Prop)(l:List (Nat×Nat×List Nat)):Prop where
 srt:l.Pairwise λ a b=>a.1<b.1\/a.1=b.1/\a.2.1<b.2.1
 mem:∀q p,(∃ts,(q,p,ts)∈l)↔0<p/\p<P.length/\InCl P ks q (p,(rgt P p).length)
 tsr:∀x∈l,x.2.2.Pairwise (· < ·)
 tmm:∀x∈l,∀t,t∈x.2.2↔T x.1 x.2.1 t
theorem ZZ133 {T:Nat->Nat->Nat->Prop}{a b:List (Nat×Nat×List Nat)}(ha:LkOk P ks T a)(hb:LkOk P ks T b):a=b:=by
 have one:∀{a b:List (Nat×Nat×List Nat)},LkOk P ks T a->LkOk P ks T b->∀x∈a,x∈b:=by
  rintro a b ha hb ⟨q,p,ts⟩ hx;obtain ⟨ts',h'⟩:=(hb.mem q p).2 ((ha.mem q p).1 ⟨ts,hx⟩);have e:ts=ts':=Zjx (lt:=(· < ·)) Qbo (λ _ _ _=>Nat.lt_trans) (ha.tsr _ hx) (hb.tsr _ h') λ t=>(ha.tmm _ hx t).trans (hb.tmm _ h' t).symm;rw[e];exact h'
 refine Zjx (lt:=λ a b=>a.1<b.1\/a.1=b.1/\a.2.1<b.2.1) (λ x=>by omega) (λ x y z h1 h2=>by omega) ha.srt hb.srt λ x=>⟨one ha hb x,one hb ha x⟩
end
theorem zip_map {α β:Type}(f:α->β):∀(l:List (List (Int×α))) (k:Nat),((l.zipIdx k).flatMap λ x=>x.1.map λ e=>(x.2,e.2)).map (λ p=>f p.2)=l.flatMap λ es=>es.map λ e=>f e.2
 | [],k=>rfl
 | es::l,k=>by
  rw[List.zipIdx_cons,Qan,Qan,Qu,zip_map f l (k+1)]
  simp
theorem Znu {β:Type}(f:Nat->β)(ess:List (List (Int×Nat))):(Zfk ess).map (λ p=>f p.2)=ess.flatMap λ es=>es.map λ e=>f e.2:=zip_map f ess 0
theorem Zlo (ess:List (List (Int×Nat)))(n:Nat):∃r,Zfk ess=Zfk (ess.take n)++r/\∀p∈r,n<=p.1:=by
 refine ⟨((ess.drop n).zipIdx (ess.take n).length).flatMap λ x=>x.1.map λ e=>(x.2,e.2),?_,λ p hp=>?_⟩
 ·unfold Zfk;rw[<-Qab];congr 1;have:=Qdi (xs:=ess.take n) (ys:=ess.drop n) (k:=0);rw[Qag,Qa3]at this;exact this
 ·obtain ⟨x,hx,hp⟩:=Qbh.1 hp;obtain ⟨e,_,rfl⟩:=Qr.1 hp;obtain ⟨y,i⟩:=x;have h1:=(List.mem_zipIdx hx).1
  show n<=i
  by_cases hn:n<=ess.length
  ·rw[Q6,Qb8 hn]at h1;exact h1
  ·rw[List.drop_eq_nil_of_le (by omega)]at hx;simp at hx
section
variable {P:Prs} {ks ks':List (List It)} {ess ess':List (List (Int×Nat))}
theorem EdOk.syms {l:List It}{es es':List (Int×Nat)}(h:EdOk P ks l es)(h':EdOk P ks' l es'):es.map (·.1)=es'.map (·.1):=by
 refine Zjx (lt:=λ a b:Int=>a<b) (λ x=>by omega) (λ x y z h1 h2=>by omega) h.srt h'.srt λ a=>⟨λ ha=>?_,λ ha=>?_⟩
 ·obtain ⟨e,he,rfl⟩:=Qr.1 ha;exact h'.all _ (h.to e he).1
 ·obtain ⟨e,he,rfl⟩:=Qr.1 ha;exact h.all _ (h'.to e he).1
theorem EdOk.same {l:List It}{es es':List (Int×Nat)}(h:EdOk P ks l es)(h':EdOk P ks' l es')(hs:∀l∈ks,l.Pairwise itLt)(hs':∀l∈ks',l.Pairwise itLt):(es.map λ e=>ks[e.2]?)=es'.map λ e=>ks'[e.2]?:=by
 have hm:=h.syms h';refine Qaw λ t=>?_;rw[Qh,Qh];have ht:=congrArg (λ l=>l[t]?) hm;simp only[Qh]at ht
 cases h1:es[t]? with
 | none=>
  rw[h1]at ht
  cases h2:es'[t]? with
  | none=>rfl
  | some e'=>rw[h2]at ht;cases ht
 | some e=>
  rw[h1]at ht
  cases h2:es'[t]? with
  | none=>rw[h2]at ht;cases ht
  | some e'=>
   rw[h2]at ht;injection ht with ht;obtain ⟨_,l1,a1,a2⟩:=h.to e (Qe h1);obtain ⟨_,l2,b1,b2⟩:=h'.to e' (Qe h2);simp only[Qbx];rw[a1,b1];congr 1;refine congrArg some (Zkp (hs _ (Qe a1)) (hs' _ (Qe b1)) λ z=>?_);have ht:e.1=e'.1:=ht;rw[a2,b2,ht]
theorem Zyf (h:Lr0 P ks)(h':Lr0 P ks')(h0:ks[0]?=some [(0,0)])(h0':ks'[0]?=some [(0,0)])(he:EsOk P ks ess)(he':EsOk P ks' ess'):∀n,n<=ks.length->n<=ks'.length->ks.take n=ks'.take n:=by
 intro n
 induction n with
 | zero=>intro _ _;simp
 | succ n ih=>
  intro hn hn';have ih:=ih (by omega) (by omega);rw[Qd (by omega),Qd (by omega),ih];congr 2;by_cases hz:n=0
  ·subst hz;have e1:=(Qa.1 h0).2;have e2:=(Qa.1 h0').2;rw[e1,e2]
  have hks:∀j,j<n->ks[j]?=ks'[j]?:=λ j hj=>by
   have:=congrArg (λ l=>l[j]?) ih;simpa[Qbm,hj]using this
  have hA:(ess.take n).map (λ es=>es.map λ e=>ks[e.2]?)=(ess'.take n).map (λ es=>es.map λ e=>ks'[e.2]?):=by
   refine Qaw λ j=>?_;rw[Qh,Qh];by_cases hj:j<n
   ·rw[Qbz hj,Qbz hj];have hl:j<ess.length:=by rw[he.len];omega
    have hl':j<ess'.length:=by rw[he'.len];omega
    rw[Qb hl,Qb hl'];simp only[Qbx];congr 1;have hkj:ks[j]?=some (ks[j]'(by omega)):=Qb (by omega);have k1:=he.ok j _ _ hkj (Qb hl);have k2:=he'.ok j _ _ (by rw[<-hks j hj];exact hkj) (Qb hl');exact k1.same k2 h.srt h'.srt
   ·rw[Qx (by simp;omega),Qx (by simp;omega)];rfl
  have hK:(Zfk (ess.take n)).map (λ p=>ks[p.2]?)=(Zfk (ess'.take n)).map (λ p=>ks'[p.2]?):=by
   rw[Znu (λ m=>ks[m]?),Znu (λ m=>ks'[m]?),List.flatMap_def,List.flatMap_def,hA]
  obtain ⟨r,hr1,hr2⟩:=Zlo ess n;obtain ⟨r',hr1',hr2'⟩:=Zlo ess' n;obtain ⟨k,i,b1,b2,b3⟩:=he.bf.new n (by omega) (by omega);obtain ⟨k',i',b1',b2',b3'⟩:=he'.bf.new n (by omega) (by omega);have hkl:k<(Zfk (ess.take n)).length:=by
   refine Qv λ hge=>?_;rw[hr1,Qi (by omega)]at b1;have:=hr2 _ (Qe b1);simp only at this;omega
  have hkl':k'<(Zfk (ess'.take n)).length:=by
   refine Qv λ hge=>?_;rw[hr1',Qi (by omega)]at b1';have:=hr2' _ (Qe b1');simp only at this;omega
  have hll:(Zfk (ess.take n)).length=(Zfk (ess'.take n)).length:=by simpa using congrArg List.length hK
  have at1:∀j,j<(Zfk (ess.take n)).length->∃p p',(Zfk ess)[j]?=some p/\(Zfk ess')[j]?=some p'/\ks[p.2]?=ks'[p'.2]?:=λ j hj=>by
   refine ⟨_,_,by rw[hr1,Qf hj];exact Qb hj,by rw[hr1',Qf (by omega)];exact Qb (by omega),?_⟩;have:=congrArg (λ l=>l[j]?) hK;simp only[Qh]at this;rw[Qb hj,Qb (by omega)]at this;simpa using this
  rcases Qdk k k' with hlt|rfl|hlt
  ·exfalso
   obtain ⟨p,p',c1,c2,c3⟩:=at1 k hkl;rw[b1]at c1;injection c1 with c1;subst c1;have:=b3' k p' hlt c2;rw[<-hks _ this]at c3;have hn1:ks[n]?=some (ks[n]'(by omega)):=Qb (by omega);have:=Zer h.nd hn1 (by rw[<-c3];exact hn1);omega
  ·obtain ⟨p,p',c1,c2,c3⟩:=at1 k hkl;rw[b1]at c1;injection c1 with c1;subst c1;rw[b1']at c2;injection c2 with c2;subst c2;simp only at c3;rw[Qb (by omega),Qb (by omega)]at c3;injection c3
  ·exfalso
   obtain ⟨p,p',c1,c2,c3⟩:=at1 k' (by omega);rw[b1']at c2;injection c2 with c2;subst c2;have:=b3 k' p hlt c1;rw[hks _ this]at c3;have hn1:ks'[n]?=some (ks'[n]'(by omega)):=Qb (by omega);have:=Zer h'.nd hn1 (by rw[c3];exact hn1);omega
theorem Zv6 (h:Lr0 P ks)(h':Lr0 P ks')(ht:∀n,n<=ks.length->n<=ks'.length->ks.take n=ks'.take n):¬ks.length<ks'.length:=λ hlt=>by
 have e:=ht ks.length (Ql _) (by omega);rw[Qm]at e;have hn:ks'[ks.length]?=some (ks'[ks.length]):=Qb hlt;have hm:=Qe hn;obtain ⟨l,hl,hle⟩:=h.all (h'.r0 _ hm);have e2:l=ks'[ks.length]:=Zkp (h.srt l hl) (h'.srt _ hm) hle;obtain ⟨z,hz⟩:∃z,ks'[ks.length]=z:=⟨_,rfl⟩;rw[hz]at hn e2;have hl:z∈ks'.take ks.length:=by rw[<-e,<-e2];exact hl
 obtain ⟨j,hj⟩:=Qo.1 hl;have hjl:=(Qa.1 hj).1;rw[Q6]at hjl;rw[Qbz (by omega)]at hj;have:=Zer h'.nd hj hn;omega
theorem Zyp (h:Lr0 P ks)(h':Lr0 P ks')(h0:ks[0]?=some [(0,0)])(h0':ks'[0]?=some [(0,0)])(he:EsOk P ks ess)(he':EsOk P ks' ess'):ks=ks'/\ess=ess':=by
 have ht:=Zyf h h' h0 h0' he he';have l1:=Zv6 h h' ht;have l2:=Zv6 h' h (λ n a b=>(ht n b a).symm);have hl:ks.length=ks'.length:=by omega
 have hk:ks=ks':=by
  have:=ht ks.length (Ql _) (by omega);rwa [Qm,hl,Qm]at this
 subst hk;refine ⟨rfl,List.ext_getElem (by rw[he.len,he'.len]) λ i hi hi'=>?_⟩;have hil:i<ks.length:=by rw[<-he.len];exact hi
 have k1:=he.ok i _ _ (Qb hil) (Qb hi);have k2:=he'.ok i _ _ (Qb hil) (Qb hi');have hs:=k1.syms k2;have hk:=k1.same k2 h.srt h'.srt;refine Qaw λ t=>?_;have hst:=congrArg (λ l=>l[t]?) hs;have hkt:=congrArg (λ l=>l[t]?) hk;simp only[Qh]at hst hkt
 cases h1:ess[i][t]? with
 | none=>
  rw[h1]at hst
  cases h2:ess'[i][t]? with
  | none=>rfl
  | some e'=>rw[h2]at hst;cases hst
 | some e=>
  rw[h1]at hst hkt
  cases h2:ess'[i][t]? with
  | none=>rw[h2]at hst;cases hst
  | some e'=>
   rw[h2]at hst hkt;injection hst with hst;injection hkt with hkt;obtain ⟨_,l1',a1,_⟩:=k1.to e (Qe h1);have hkt:ks[e.2]?=ks[e'.2]?:=hkt;have:=Zer h.nd a1 (by rw[<-hkt];exact a1);rw[Prod.ext hst this]
end
end Go.Px.Cn
namespace Go.Px.Scan
open Go.Px
def cntF (ms:List Bool):Nat:=ms.countP (! ·)
theorem Zht {ms:List Bool}{j:Nat}(h:j<ms.length)(hf:ms[j]=false):cntF (ms.set j true)+1=cntF ms:=by
 unfold cntF;have h1:0<ms.countP (! ·):=List.countP_pos_iff.2 ⟨ms[j],Qj h,by simp[hf]⟩;rw[List.countP_set h];simp[hf];omega
theorem Zbn.syms' {g:Gr}(h:Zbn g):∀p∈g.prods,((g.terms.length:Int)<=p.1/\p.1<g.terms.length+g.nons.length)/\∀x∈p.2.1,1<=x/\x<g.terms.length+g.nons.length:=by
 intro p hp;have hd:=h.prods.each;have ha:=h.added
 cases hq:g.prods with
 | nil=>rw[hq]at hp;cases hp
 | cons a b=>
  rw[hq]at hp hd ha;rcases Qaa.1 hp with rfl|hp
  ·injection ha with ha;have h1:=h.syms.n0;have h2:=h.prods.s1;have h3:=h.prods.s0;rw[ha];refine ⟨⟨Qdu _,by show (g.terms.length:Int)<_;omega⟩,λ x hx=>?_⟩;simp at hx;subst hx;omega
  ·have:=hd p (by simpa using hp);have h1:=this.l0;have h2:=this.l1;exact ⟨⟨by omega,h2⟩,λ x hx=>⟨(this.right x hx).1,(this.right x hx).2.1⟩⟩
open Go.Px.Cn
def SndM (nT:Nat)(P:Prs)(ms:List Bool):Prop:=∀j:Nat,ms.getD j false=true->Pd nT P ((nT:Int)+j)
theorem SndM.fits {nT:Nat}{P:Prs}{ms:List Bool}(h:SndM nT P ms){r:List Int}(hr:∀x∈r,0<=x)(hf:r.all (okS nT ms)=true):∀s∈r,Pd nT P s:=by
 intro s hs;have h1:=(Qar.1 hf) s hs;unfold okS at h1;rw[Qbl,decide_eq_true_eq]at h1;by_cases e:s<nT
 ·exact .term (hr s hs) e
 ·have h2:=h1.resolve_left e;have:=h _ h2;have e2:(nT:Int)+((s-nT).toNat:Int)=s:=by omega
  rw[e2]at this;exact this
theorem SndM.mark {nT:Nat}{P:Prs}{ms:List Bool}(h:SndM nT P ms){j:Nat}(hj:Pd nT P ((nT:Int)+j)):SndM nT P (ms.set j true):=by
 intro i hi;by_cases e:j=i
 ·subst e;exact hj
 ·refine h i ?_;rw[Qc,Qs e]at hi;rw[Qc];exact hi
theorem SndM.none (nT:Nat)(P:Prs)(n:Nat):SndM nT P (List.replicate n false):=by
 intro j hj;rw[Qc,Qa4]at hj;split at hj<;>simp at hj
end Go.Px.Scan
namespace Go.Proofs.YtjibcckpehdbhaaGreatDoor
open Go.Px Go.Px.Scan Go.Px.Cn Go.RowKit
attribute [-go_sem] Builtin.append_ Za8.b3 Za8.b14 Za8.b17 Za8.b4 Za8.b9
theorem Zy2 {w:World}{B:Nat}{vg:Value}{g:Gr}(hg:Zb7.atN w B vg g)(hB:B<=w.heap.size)(hcl:Zbn g) :
  Ct Tryz.prog Za8.id #[vg] w λ v w'=>∃m ms,v = .slice (some ⟨m,0,none⟩) ms.length ms.length/\ms.length=g.nons.length/\St noB w w' [rowC 4 1 (some ⟨m,0,none⟩) ms.length ms.length (Zaz ms)]/\SndM g.terms.length g.prods ms:=by
 refine Za8.ct λ R hR=>?_;obtain ⟨A1,c1,A2,c2,A3,c3,A4,c4,rfl,⟨m1,m2,m3,m4⟩,hst,hc0,hgr⟩:=Zbg hg hB;have hr4:=(hgr _ (Chg.refl _ _)).r4;have hr4:(Zq rPr).at1 w B (.slice A4 g.prods.length c4) g.prods:=by obtain ⟨_,_,_,_,_,_,_,_,e,_,_,_,_,h5,_⟩:=(Zcg hg).ex;injection e with e;injection e with e;simp at e;rw[e.2.2.2.1,e.2.2.2.2];exact h5
 have hT:=hcl.syms.t1;have hN:=hcl.syms.n1;have s1:=(St.refl noB w).alloc (gQ A1 c1 A2 c2 A3 c3 A4 c4 g) 27;unfold Za8.run;simp -dsimp[go_sem];generalize w.alloc (.cells (gQ A1 c1 A2 c2 A3 c3 A4 c4 g) 27)=w1 at s1 hc0 hgr |-;generalize w.heap.size=q at s1 hgr |-;have y1:=(hgr w1 (Chg.refl _ _)).k;have s2:=s1.lit 4 1 g.nons.length (Array.replicate g.nons.length (Value.bool false)) (by unfold maxLen;omega) (by simp);simp -dsimp[go_sem,y1,Zg2 w1 g.nons.length (by unfold Zaf;omega)];have e0:(Array.replicate g.nons.length (Value.bool false)).toList=Zaz (List.replicate g.nons.length false):=by simp[Zaz]
 rw[e0]at s2;generalize w1.alloc (.cells (Array.replicate g.nons.length (Value.bool false)) 4)=w2 at s2 |-;generalize w1.heap.size=m at s2 |-;obtain ⟨N,hNe⟩:∃N,g.nons.length=N:=⟨_,rfl⟩;simp only[gQ,gU]at s2 hg;rw[hNe]at s2 hg |-;obtain ⟨CB,hCB⟩:∃CB,boxC q 27 [.slice A1 g.terms.length c1,.slice A2 N c2,.slice A3 g.levels.length c3,.int .i64 g.start,.slice A4 g.prods.length c4]=CB:=⟨_,rfl⟩;have s2':St noB w w2 [CB,rowC 4 1 (some ⟨m,0,none⟩) N N (Zaz (List.replicate N false))]:=by rw[<-hCB];exact s2
 let J:Value->World->Nat->Prop:=λ y w' f=>∃(ag:Bool) (ms:List Bool),y = .bool ag/\ms.length=N/\SndM g.terms.length g.prods ms/\St noB w w' [CB,rowC 4 1 (some ⟨m,0,none⟩) N N (Zaz ms)]/\f=2*cntF ms+(if ag then 1 else 0)
 unfold Za8.b4;refine Za8.l6_intro _ _ _ _ _ (λ y w'=>∃f,J y w' f) (λ y w'=>muOf (J y) w') ⟨_,true,List.replicate N false,rfl,by simp,SndM.none _ _ _,s2',rfl⟩ ?_;rintro y3 w3 hJ C hC;have hJm:=Zfy hJ;have hfin:∀y4 w4 f,J y4 w4 f->f<muOf (J y3) w3->C y4 w4:=λ y4 w4 f h1 h2=>hC _ _ ⟨f,h1⟩ (Qbd (Zfw h1) h2);obtain ⟨ag,ms0,rfl,hl0,hag,s3,hf⟩:=hJm;rw[hf]at hfin;clear hf hC hJ s2 s2'
 cases ag with
 | false=>
  simp -dsimp[go_sem];unfold Za8.b3;exact hR _ _ ⟨m,ms0,by rw[hl0],hl0.trans hNe.symm,by rw[hl0];exact s3.pick [1] (by simp) rfl,hag⟩
 | true=>
 simp -dsimp[go_sem];unfold Za8.b9;refine Za8.l11_intro _ _ _ _ _ _ _ (λ x y w'=>∃(ag:Bool) (i:Nat) (ms:List Bool),x = .bool ag/\y = .int .i64 i/\i<=g.prods.length/\ms.length=N/\SndM g.terms.length g.prods ms/\St noB w w' [CB,rowC 4 1 (some ⟨m,0,none⟩) N N (Zaz ms)]/\cntF ms+(if ag then 1 else 0)<=cntF ms0) (λ _ y _=>g.prods.length-iv y)
  ⟨false,0,ms0,rfl,rfl,by omega,hl0,hag,s3,by simp⟩ ?_
 rintro _ _ w4 ⟨ag,i,ms,rfl,rfl,hi,hl,hcl4,s4,hcnt⟩ D hD;have wi:IntKind.i64.wrap ((i:Int)+1)=(i:Int)+1:=IntWalk.i64_in _ (by have:=hcl.prods.c1;omega);have y4:=s4.box 0 (by rw[<-hCB];rfl);simp[Zw]at y4;simp -dsimp[go_sem,y4];refine Za (λ p1=>?_) (λ p1=>?_)<;>simp at p1
 ·obtain ⟨b,o,vr,rfl,hb,x1,x2,x3,hr,_⟩:=Zcc (Rep.below hr4 (s4.chg.below hB λ _ _=>id)) p1;have hx:=hcl.syms' g.prods[i] (Qj p1);have et:g.prods.take (i+1)=g.prods.take i++[g.prods[i]]:=Qd p1;obtain ⟨j,hj⟩:∃j:Nat,g.prods[i].1-(g.terms.length:Int)=j:=⟨(g.prods[i].1-(g.terms.length:Int)).toNat,by omega⟩;have hjl:j<N:=by omega
  have wj:IntKind.i64.wrap (g.prods[i].1-(g.terms.length:Int))=(j:Int):=by rw[hj];exact IntWalk.i64_in _ (by omega)
  have cmv:(Zaz ms)[j]'(by rw[Zex,hl];exact hjl) = .bool (ms[j]'(by omega)):=by simp[Zaz]
  have hok:okS g.terms.length ms g.prods[i].1=ms[j]'(by omega):=by
   unfold okS;rw[decide_eq_false (by omega),hj,Bool.false_or,Qax,Qc,Qb (by omega)];rfl
  have hgo:∀w' (ag':Bool) (ms':List Bool),ms'.length=N->SndM g.terms.length g.prods ms'->St noB w w' [CB,rowC 4 1 (some ⟨m,0,none⟩) N N (Zaz ms')]->cntF ms'+(if ag' then 1 else 0)<=cntF ms0->Za8.b14 R C D (.bool ag') (.int .i64 i) w':=by
   intro w' ag' ms' h1 h2 h3 h4;unfold Za8.b14;simp -dsimp[go_sem,wi];exact hD _ _ _ ⟨ag',i+1,ms',rfl,by simp,by omega,h1,h2,h3,h4⟩ (by simp[iv];omega)
  obtain ⟨Ar,cr,rfl,hrl,hrm,_⟩:=Zz hr;have s5:=s4.alloc #[.int .i64 g.prods[i].1,.slice Ar g.prods[i].2.1.length cr,.int .i64 g.prods[i].2.2] 103;obtain ⟨gm,em,cm,fm⟩:=s5.rowAt 1 rfl (j:=j) (by rw[Zex,hl];exact hjl);injection em with em;injection em with em;subst em;rw[cmv]at cm;simp -dsimp[go_sem,y4,p1,x1,x2,x3,wj,hjl,cm];have hc5:Chg noB w4 (w4.alloc (.cells #[.int .i64 g.prods[i].1,.slice Ar g.prods[i].2.1.length cr,.int .i64 g.prods[i].2.2] 103)):=(Chg.refl _ _).alloc _;generalize w4.alloc (.cells #[.int .i64 g.prods[i].1,.slice Ar g.prods[i].2.1.length cr,.int .i64 g.prods[i].2.2] 103)=w5 at s5 cm fm hc5 |-;generalize w4.heap.size=q5 at s5 |-;have y5:=s5.box 0 (by rw[<-hCB];rfl);have z5:=s5.box 2 rfl;simp[Zw]at y5 z5
  cases hb:ms[j]'(by omega) with
  | true=>
   simp -dsimp[go_sem];unfold Za8.b17;simp -dsimp[go_sem];exact hgo _ ag ms hl hcl4 (s5.take 2) hcnt
  | false=>
   simp -dsimp[go_sem,y5,z5];have hbl:Below B w w5:=s5.chg.below hB λ _ _=>id;refine Zi (Zui s5 hl (k:=1) rfl (row:=g.prods[i].2.1) (Zx hg hbl) (Rep.below hr ((hc5).below (by have:=s4.chg.size;omega) λ _ _=>id)) (by have:=s5.chg.size;omega) hT λ x hx2=>by have:=(hx.2 x hx2).2;omega) ?_;rintro _ w6 ⟨rfl,hc6⟩;have s6:=s5.old hc6;have y6:=s6.box 0 (by rw[<-hCB];rfl);have z6:=s6.box 2 rfl;simp[Zw]at y6 z6;unfold Za8.b17
   cases hfit:g.prods[i].2.1.all (okS g.terms.length ms) with
   | false=>
    simp -dsimp[go_sem];exact hgo _ ag ms hl hcl4 (s6.take 2) hcnt
   | true=>
    obtain ⟨gm,em,cm6,fm6⟩:=s6.rowAt 1 rfl (j:=j) (by rw[Zex,hl];exact hjl);injection em with em;injection em with em;subst em;simp -dsimp[go_sem,y6,z6,wj,hjl,cm6,fm6];have s7:=s6.setRow 1 rfl j (.bool true);have e7:(Zaz ms).set j (.bool true)=Zaz (ms.set j true):=by simp[Zaz,Qap]
    rw[e7]at s7;have hcs:=Zht (ms:=ms) (j:=j) (by omega) hb;have e9:(g.terms.length:Int)+(g.prods[i].1-(g.terms.length:Int))=g.prods[i].1:=by omega
    have hpd:Pd g.terms.length g.prods ((g.terms.length:Int)+(j:Int)):=by
     rw[<-hj,e9];exact Pd.non (Qj p1) (hcl4.fits (λ x hx2=>by have:=(hx.2 x hx2).1;omega) hfit)
    refine hgo _ true (ms.set j true) (by simp[hl]) (hcl4.mark hpd) (s7.take 2) (by cases ag<;>simp at hcnt |-<;>omega)
 ·have hie:i=g.prods.length:=by omega
  subst hie;refine hfin _ _ _ ⟨ag,ms,rfl,hl,hcl4,s4,rfl⟩ ?_;cases ag<;>simp at hcnt |-<;>omega
end Go.Proofs.YtjibcckpehdbhaaGreatDoor
namespace Go.Px.Cn
open Go.Px Go.Px.Scan Go.Proofs.YtjibcckpehdbhaaGreatDoor
theorem StR.keep {w w':World}{A:Option Addr}{ks:List (List It)}(h:StR w A ks)(hc:Chg noB w w'):StR w' A ks:=by
 intro i l hl;obtain ⟨g,a,c,e,h1,h2⟩:=h i l hl;exact ⟨g,a,c,e,hc.at h1 id,Rep.up (Rep.below h2 (hc.below (Ql _) λ _ _=>id)) hc.size⟩
theorem EdR.keep {w w':World}{A:Option Addr}{ess:List (List (Int×Nat))}(h:EdR w A ess)(hc:Chg noB w w'):EdR w' A ess:=by
 intro i l hl;obtain ⟨g,ae,e,h1,h2⟩:=h i l hl;exact ⟨g,ae,e,hc.at h1 id,Rep.up (Rep.below h2 (hc.below (Ql _) λ _ _=>id)) hc.size⟩
structure AutP (g:Gr)(ks:List (List It))(ess:List (List (Int×Nat))):Prop where
 cl:Zbn g
 lr:Lr0 g.prods ks
 len:ks.length<=256
 val:∀l∈ks,Val g.prods l/\l.length<=29100/\l≠[]/\(∀y∈l,y.2=0->y=(0,0))/\∀y∈l,y.2<=256
 k0:ks[0]?=some [(0,0)]
 es:EsOk g.prods ks ess
theorem AutP.uniq {g:Gr}{ks ks':List (List It)}{ess ess':List (List (Int×Nat))}(h:AutP g ks ess)(h':AutP g ks' ess'):ks=ks'/\ess=ess':=Zyp h.lr h'.lr h.k0 h'.k0 h.es h'.es
theorem AutP.au {g:Gr}{ks:List (List It)}{ess:List (List (Int×Nat))}(h:AutP g ks ess):Au g.prods ks where
 toLr0:=h.lr
 first:=h.k0
 pos:=(Zd9 h.cl).2
 right0:=by
  have ha:=h.cl.added;unfold rgt
  cases hq:g.prods with
  | nil=>rw[hq]at ha;cases ha
  | cons a b=>
   rw[hq]at ha;injection ha with ha;subst ha;exact ⟨_,rfl⟩
 noS x s hs:=by
  rw[(Zd9 h.cl).1];unfold aft rgt at hs;by_cases hp:x.1<g.prods.length
  ·rw[Qc,Qb hp]at hs;exact ((Zd7 h.cl _ (Qj hp)).2 s (Qe hs)).2.2
  ·rw[Qc,Qx (l:=g.prods) (by omega)]at hs;simp at hs
def toF (ess:List (List (Int×Nat)))(q:Nat)(s:Int):Nat:=(((ess.getD q []).find? λ e=>decide (e.1=s)).map (·.2)).getD 0
theorem Zov {g:Gr}(hcl:Zbn g){x:It}{s:Int}(h:aft g.prods x=some s):1<=s/\s<g.terms.length+g.nons.length/\s≠g.terms.length:=by
 unfold aft rgt at h;by_cases hp:x.1<g.prods.length
 ·rw[Qc,Qb hp]at h;exact (Zd7 hcl _ (Qj hp)).2 s (Qe h)
 ·rw[Qc,Qx (l:=g.prods) (by omega)]at h;simp at h
section
variable {g:Gr} {ks:List (List It)} {ess:List (List (Int×Nat))}
theorem AutP.at (h:AutP g ks ess){q:Nat}(hq:q<ks.length):∃l es,ks[q]?=some l/\ess[q]?=some es/\EdOk g.prods ks l es :=
 ⟨_,_,Qb hq,Qb (by rw[h.es.len];exact hq),h.es.ok q _ _ (Qb hq) (Qb (by rw[h.es.len];exact hq))⟩
theorem AutP.edge (h:AutP g ks ess){q:Nat}{es:List (Int×Nat)}(hq:ess[q]?=some es){e:Int×Nat}(he:e∈es):Gt g.prods ks q e.1 e.2:=by
 have hql:q<ks.length:=by rw[<-h.es.len];exact (Qa.1 hq).1
 obtain ⟨l,es',h1,h2,h3⟩:=h.at hql;rw[hq]at h2;injection h2 with h2;subst h2;obtain ⟨h4,l',h5,h6⟩:=h3.to e he;exact ⟨l,l',h1,h5,h4,h6⟩
theorem AutP.sym (h:AutP g ks ess){q:Nat}{es:List (Int×Nat)}(hq:ess[q]?=some es){e:Int×Nat}(he:e∈es):(1<=e.1/\e.1<g.terms.length+g.nons.length/\e.1≠g.terms.length)/\1<=e.2/\e.2<ks.length:=by
 have hg:=h.edge hq he;obtain ⟨x,_,hx⟩:=hg.tr;refine ⟨Zov h.cl hx,?_,?_⟩
 ·refine Qv λ h0=>?_;have h0:e.2=0:=by omega
  obtain ⟨l,l',h1,h2,⟨z,hz⟩,h4⟩:=hg;rw[h0,h.k0]at h2;injection h2 with h2;subst h2;have:=(h4 z).2 hz;obtain ⟨y,_,_,rfl⟩:=hz;simp at this
 ·obtain ⟨l,l',h1,h2,_⟩:=hg;exact (Qa.1 h2).1
theorem Zqa:∀{l:List Int} {n:Nat} (k:Int),l.Pairwise (· < ·)->(∀x∈l,k<=x/\x<k+n)->l.length<=n
 | [],n,k,_,_=>Qy _
 | x::l,n,k,h,hx=>by
  rw[Qcc]at h
  have h1:=hx x (by simp)
  obtain ⟨m,hm⟩:∃m:Nat,(m:Int)=k+n-(x+1):=⟨(k+n-(x+1)).toNat,by omega⟩
  have:=Zqa (l:=l) (n:=m) (x+1) h.2 λ y hy=>by
   have:=h.1 y hy
   have:=hx y (by simp[hy])
   omega
  simp only[Qb1]
  omega
theorem AutP.eslen (h:AutP g ks ess){q:Nat}{es:List (Int×Nat)}(hq:ess[q]?=some es):es.length<=130:=by
 have hql:q<ks.length:=by rw[<-h.es.len];exact (Qa.1 hq).1
 obtain ⟨l,es',h1,h2,h3⟩:=h.at hql;rw[hq]at h2;injection h2 with h2;subst h2;have hT:=h.cl.syms.t1;have hN:=h.cl.syms.n1;have:=Zqa (n:=130) 0 h3.srt λ x hx=>by
  obtain ⟨e,he,rfl⟩:=Qr.1 hx;have:=(h.sym hq he).1;omega
 simpa using this
theorem AutP.find (h:AutP g ks ess){q:Nat}{es:List (Int×Nat)}(hq:ess[q]?=some es){e:Int×Nat}(he:e∈es):toF ess q e.1=e.2:=by
 have hql:q<ks.length:=by rw[<-h.es.len];exact (Qa.1 hq).1
 obtain ⟨l,es',h1,h2,h3⟩:=h.at hql;rw[hq]at h2;injection h2 with h2;subst h2;unfold toF;rw[Qc,hq];simp only[Qb0]
 cases hf:es.find? (λ e'=>decide (e'.1=e.1)) with
 | none=>
  have:=Qdh.1 hf e he;simp at this
 | some e'=>
  have h4:e'.1=e.1:=by simpa using List.find?_some hf
  have h5:=Qcu hf
  show e'.2=e.2
  have g1:=h.edge hq h5;have g2:=h.edge hq he;rw[h4]at g1;exact h.au.uniq g1 g2
theorem AutP.gt (h:AutP g ks ess){q r:Nat}{s:Int}(hg:Gt g.prods ks q s r):(∃es,ess[q]?=some es/\(s,r)∈es)/\toF ess q s=r:=by
 obtain ⟨l,l',h1,h2,h3,h4⟩:=id hg;have hql:=(Qa.1 h1).1;obtain ⟨l1,es,a1,a2,a3⟩:=h.at hql;rw[h1]at a1;injection a1 with a1;subst a1;obtain ⟨e,he,hs⟩:=Qr.1 (a3.all s h3);have g2:=h.edge a2 he;rw[hs]at g2;have hr:=h.au.uniq hg g2;have:(s,r)=e:=Prod.ext hs.symm hr;rw[<-this]at he;exact ⟨⟨es,a2,he⟩,h.find a2 he⟩
theorem Zrc {q:Nat}{s:Int}(h:∀es,ess[q]?=some es->s∉es.map (·.1)):toF ess q s=0:=by
 unfold toF;rw[Qc]
 cases hq:ess[q]? with
 | none=>rfl
 | some es=>
  simp only[Qb0];rw[Qdh.2 λ e he=>by
   have:=h es hq
   simp;rintro rfl;exact this (Qr.2 ⟨e,he,rfl⟩)]
  rfl
end
end Go.Px.Cn
