/-
  Texts of this claim: PxUser, PxTie, PxTie2, PxData, PxRow, PxMore, PxOwn, PxMap, PxOpen.
-/
import Derived.Test.YtjibcckpehdbhaaGreatDoorY01
import Derived.Below
import Derived.OwnWalk
import Derived.ProofKit
import Derived.OpenShut
import Derived.Lib.Bytealg
import Derived.Lib.Strings
import Derived.Laws.DeepStrings4
import Derived.Maps.AppendAt
import Derived.Maps.OwnSet
import Derived.Maps.Views
import Derived.StringKeys
import Derived.SliceStrings
namespace Go.Px
open Go.RowKit
def RT (S:Value->World->Prop):Ending->World->Prop
 | .returned v,w=>S v w
 | _,_=>False
theorem ZZ195 (S:Value->World->Prop)(v:Value)(w:World):RT S (.returned v) w=S v w:=rfl
def Ct (P:Program)(f:FuncId)(args:Array Value)(w:World)(S:Value->World->Prop):Prop:=Enters P f/\Calls P f args w (RT S)
theorem Ct.mono {P:Program}{f:FuncId}{args:Array Value}{w:World}{S S':Value->World->Prop}(h:Ct P f args w S)(hs:∀v w',S v w'->S' v w'):Ct P f args w S' :=
 ⟨h.1,h.2.mono λ e w' he=>by cases e<;>first | exact hs _ _ he | exact he⟩
theorem Ct.intro {P:Program}{f:FuncId}{args:Array Value}{w:World}{S:Value->World->Prop}(he:Enters P f)(h:∀R:Ending->World->Prop,(∀v w',S v w'->R (.returned v) w')->Calls P f args w R):Ct P f args w S :=
 ⟨he,h (RT S) λ _ _ hs=>hs⟩
theorem Zi {P:Program}{X:Pan}{f:FuncId}{args:Array Value}{w:World}{K S:Value->World->Prop}(h:Ct P f args w S)(hk:∀v w',S v w'->K v w'):CALL P X f args w K:=by
 unfold CALL RUNN;rw[h.1 args w];exact h.2.mono λ e w' he=>by cases e<;>first | exact hk _ _ he | exact he.elim
def CtE (P:Program)(f:FuncId)(args:Array Value)(w:World)(S:Ending->World->Prop):Prop:=Enters P f/\Calls P f args w S
theorem CtE.intro {P:Program}{f:FuncId}{args:Array Value}{w:World}{S:Ending->World->Prop}(he:Enters P f)(h:∀R:Ending->World->Prop,(∀e w',S e w'->R e w')->Calls P f args w R):CtE P f args w S :=
 ⟨he,h S λ _ _ hs=>hs⟩
theorem Zxq {P:Program}{X:Pan}{g:FuncId}{first cap:Array Value}{args:List Value}{w:World}{K S:Value->World->Prop}(h:Ct P g (first.toList++args++cap.toList).toArray w S)(hk:∀v w',S v w'->K v w') :
  Zpi P X (.func (.func g) first cap) args w K:=Zi h hk
theorem Zdx {P:Program}{X:Pan}{g:FuncId}{first cap:Array Value}{args:List Value}{w:World}{K S:Value->World->Prop}(h:Ct P g (first.toList++args++cap.toList).toArray w S)(hk:∀v w',S v w'->K v w') :
  Zfa P X (.func (.func g) first cap) args w K:=Zi h hk
theorem Zpj {P:Program}{X:Pan}{l:Nat}{args:List Value}{w:World}{K:Value->World->Prop}{R:Ending->World->Prop}(h:YieldAt Fence.wide 0 P l args.toArray w R)
  (hk:∀e w',R e w'->∃v,e = .returned v/\K v w'):Zfa P X (.func (.yield l) #[] #[]) args w K:=by
 obtain ⟨fn,tmps,assign,body,hrun,hr⟩:=h;exact ⟨fn,tmps,assign,body,hrun,hr.mono λ e w' he=>by obtain ⟨v,rfl,hv⟩:=hk e w' he;exact hv⟩
theorem Za {p:Bool}{A B:Prop}(ha:p=true->A)(hb:p=false->B):SPL (.bool p) A B:=by
 cases p
 ·exact hb rfl
 ·exact ha rfl
section
variable {P:Program} {X:Pan} {w w':World} {v v' a b:Value} {A B:Prop}
theorem Zxr:SPL (.bool true) A B=A:=rfl
theorem Zmy:SPL (.bool false) A B=B:=rfl
theorem Zt6 {t:Bool}{K:Value->Prop}:PICK (.bool t) a b K=K (cond t a b):=rfl
theorem Zte {p:Addr}{K:Value->Prop}:NILC (.pointer (some p)) K=K (.pointer (some p)):=rfl
end
def RES (X:Pan)(r:Result Value)(K:Value->World->Prop)(_x:Tok X:=tok X)(_k:Tok K:=tok K):Prop :=
 match r with
 | .ok v w'=>K v w'
 | .halt (.panic v) w'=>X [{v,recovered:=false }] w'
 | _=>False
def RESU (X:Pan)(r:Result Unit)(K:World->Prop)(_x:Tok X:=tok X)(_k:Tok K:=tok K):Prop :=
 match r with
 | .ok _ w'=>K w'
 | .halt (.panic v) w'=>X [{v,recovered:=false }] w'
 | _=>False
def RESL (w:World)(r:Result Value)(K:Value->Prop)(_k:Tok K:=tok K):Prop:=∃v,r = .ok v w/\K v
def RESP (f:World->Result Value)(K:Value->Prop)(_k:Tok K:=tok K):Prop:=∃v,(∀w,f w = .ok v w)/\K v
section
variable {P:Program} {X:Pan} {w w':World} {v:Value}
theorem Zb9 {s:Sem Value}{K:Value->World->Prop}:RUN P X s w K=RES X (s.run P w) K:=by unfold RUN RES;rfl
theorem ZZ94 {s:Sem Unit}{K:World->Prop}:RUNU P X s w K=RESU X (s.run P w) K:=by unfold RUNU RESU;rfl
theorem LD_eq {s:Sem Value}{K:Value->Prop}:LD P s w K=RESL w (s.run P w) K:=by unfold LD RESL;rfl
theorem ZZ143 {s:Sem Value}{K:Value->Prop}:PUR P s K=RESP (λ w=>s.run P w) K:=by unfold PUR RESP;rfl
theorem Zb2 {K:Value->World->Prop}:RES X (.ok v w) K=K v w:=rfl
theorem ZZ47 {u:Unit}{K:World->Prop}:RESU X (.ok u w) K=K w:=rfl
theorem ZZ29 {K:Value->Prop}:RESL w (.ok v w) K=K v:=by
 apply propext;constructor
 ·rintro ⟨v',h,hk⟩;injection h with h1;subst h1;exact hk
 ·exact λ hk=>⟨v,rfl,hk⟩
theorem ZZ71 {K:Value->Prop}:RESP (λ w=> .ok v w) K=K v:=by
 apply propext;constructor
 ·rintro ⟨v',h,hk⟩;have:=h default;injection this with h1;subst h1;exact hk
 ·exact λ hk=>⟨v,λ _=>rfl,hk⟩
end
attribute [irreducible] RES RESU RESL RESP
attribute [go_sem ↓] Zb9 ZZ94 LD_eq ZZ143
attribute [go_sem] IntWalk.i64_in IntWalk.u8_in IntWalk.i32_in
attribute [go_sem] Zb2 ZZ47 ZZ29 ZZ71 bins Zxr Zmy Zt6 Zte ZZ195
abbrev EP:=Ending->World->Prop
abbrev VP:=Value->World->Prop
abbrev XP:=Exit->Env->World->Prop
def TI (P:Program)(X:Pan)(c:Code)(q:XP)(F:Env->World->Prop):Prop:=∀ρ w,F ρ w->Zbp P X c q ρ w
section
variable {P:Program} {X:Pan} {c:Code} {q:XP} {F G n r:Env->World->Prop} {l:List (Nat×(Env->World->Prop))}
theorem ofT (h:∀ρ w,F ρ w=Zbp P X c q ρ w:=by intro _ _;kernel_rfl):TI P X c q F:=λ ρ w hf=>(h ρ w).mp hf
theorem appT (k:Nat)(hk:TI P X (Zhb (k+1) c) (QX n r l) G)(h:∀ρ w,F ρ w=Zbp P X (preC k c) (QX G r l) ρ w:=by intro _ _;kernel_rfl)(e:appC k (preC k c) (Zhb (k+1) c)=c:=by kernel_rfl):TI P X c (QX n r l) F:=λ ρ w hf=>by
 have h1:=(h ρ w).mp hf;rw[<-e];exact appQ G k h1 hk
theorem seqT (h1:TI P X (fstC c) (QX G r l) F)(h2:TI P X (sndC c) (QX n r l) G)(e:Code.seq (fstC c) (sndC c)=c:=by kernel_rfl):TI P X c (QX n r l) F:=λ ρ w hf=>by
 have:=h1 ρ w hf;rw[<-e];exact seqQ G this h2
theorem Zk (id:Nat)(h:TI P X (blkC c) (QX n r ((2*id,n)::l)) F)(e:Code.block id (blkC c)=c:=by kernel_rfl):TI P X c (QX n r l) F:=λ ρ w hf=>by
 have:=h ρ w hf;rw[<-e];exact ZZ163 this
theorem Zsr {ρ:Env}{w:World}(I:Env->World->Prop)(μ:Env->World->Nat)(h0:I ρ w)
  (hr:∀ρ' w',Zep (writes (Zez c)) ρ ρ'->I ρ' w'->Zbp P X (Zez c) (QX (λ ρ'' w''=>I ρ'' w''/\μ ρ'' w''<μ ρ' w') r l) ρ' w') (e:Code.loop (Zez c)=c:=by kernel_rfl):Zbp P X c (QX n r l) ρ w:=by
 rw[<-e];exact loopQ I μ h0 hr
theorem ZZ52 (h:TI P X (Zt8 c) (QX n r l) F)(hl:∀e∈l,e.1 % 2=0)(e:Zzn c=true:=by kernel_rfl):TI P X c (QX n r l) F:=λ ρ w hf=>by
 have h1:=h ρ w hf
 cases c with
 | scope c=>exact ZZ45 e hl h1
 | _=>cases e
theorem Zep.on {l:List Nat}{ρ ρ':Env}(h:Zep l ρ ρ')(n:Nat)(hn:l.elem n=false:=by kernel_rfl):ρ' n=ρ n:=h.at n hn
end
instance:Coe EP Pan:=⟨pan⟩
section
variable {P:Program} {f:FuncId} {fn:Func} {c:Code} {w:World} {R:EP}
end
def T {α:Sort _}(_:α):Type:=Unit
def Q {α:Sort _}(a:α):T a:=()
abbrev QQ (F:Env->World->Prop):XP:=QX F F []
def msk (l:List Nat)(z:Env):Env:=λ n=>if l.elem n then undef else z n
theorem Zuz {l:List Nat}{z z':Env}(h:Zep l z z'):msk l z'=msk l z:=by
 funext n;unfold msk;by_cases hn:l.elem n=true
 ·rw[if_pos hn,if_pos hn]
 ·rw[if_neg hn,if_neg hn];exact h.at n (by simpa using hn)
section
variable {P:Program} {X:Pan} {c:Code} {q:XP} {F n r:Env->World->Prop} {l:List (Nat×(Env->World->Prop))}
theorem aT (k:Nat)(G:Env->World->Prop)(hk:TI P X (Zhb (k+1) c) (QX n r l) G)(h:∀ρ w,F ρ w=Zbp P X (preC k c) (QX G r l) ρ w:=by intro _ _;kernel_rfl)(e:appC k (preC k c) (Zhb (k+1) c)=c:=by kernel_rfl):TI P X c (QX n r l) F:=appT k hk h e
theorem sT (G:Env->World->Prop)(h1:TI P X (fstC c) (QX G r l) F)(h2:TI P X (sndC c) (QX n r l) G)(e:Code.seq (fstC c) (sndC c)=c:=by kernel_rfl):TI P X c (QX n r l) F:=seqT h1 h2 e
theorem cdT (o:Operand)(F1 F2:Env->World->Prop)(h1:TI P X (thnC c) (QX n r l) F1)(h2:TI P X (elsC c) (QX n r l) F2)(h:∀ρ w,F ρ w=Zef (ev ρ o) λ b=>cond b (F1 ρ w) (F2 ρ w):=by intro _ _;kernel_rfl)(e:Code.cond o (thnC c) (elsC c)=c:=by kernel_rfl):TI P X c (QX n r l) F:=λ ρ w hf=>by
 have h3:=(h ρ w).mp hf;rw[<-e];exact ZZ7 h3 (λ h=>h1 ρ w h) (λ h=>h2 ρ w h)
end
def LP0 (B:(World->Prop)->World->Prop)(w:World):Prop:=∃(J:World->Prop) (μ:World->Nat),J w/\∀w0,J w0->B (λ w1=>J w1/\μ w1<μ w0) w0
theorem LI0 (B:(World->Prop)->World->Prop)(w:World)(J:World->Prop)(μ:World->Nat)(h0:J w)(hr:∀w0,J w0->∀C:World->Prop,(∀w1,J w1->μ w1<μ w0->C w1)->B C w0):LP0 B w :=
 ⟨J,μ,h0,λ w0 hJ=>hr w0 hJ _ λ w1 h1 h2=>⟨h1,h2⟩⟩
abbrev LS0 (B:(World->Prop)->World->Prop)(w:World)(q:Prop):Prop:=∀(J:World->Prop) (μ:World->Nat) (_:J w) (_:∀w0,J w0->∀C:World->Prop,(∀w1,J w1->μ w1<μ w0->C w1)->B C w0),q
theorem lT0 {P:Program}{X:Pan}{c:Code}{n r:Env->World->Prop}{l:List (Nat×(Env->World->Prop))}(B:Env->(World->Prop)->World->Prop)(h:∀C:World->Prop,TI P X (Zez c) (QX (λ z w=>C w) r l) λ z w=>B z C w)
  (hb:∀z,B (msk (writes (Zez c)) z)=B z:=by intro _;kernel_rfl) (e:Code.loop (Zez c)=c:=by kernel_rfl):TI P X c (QX n r l) λ z w=>LP0 (B z) w:=λ ρ w hf=>by
 obtain ⟨J,μ,h0,hr⟩:=hf
 refine Zsr (λ ρ w=>J w) (λ ρ w=>μ w) h0 (λ ρ' w' hA hI=>h (λ w1=>J w1/\μ w1<μ w') ρ' w' ?_) e
 have h1:=hr w' hI
 have e2:B ρ'=B ρ:=by rw[<-hb ρ',<-hb ρ,Zuz hA]
 show B ρ' _ w'
 rw[e2];exact h1
def LP1 (B:(Value->World->Prop)->Value->World->Prop)(x0:Value)(w:World):Prop:=∃(J:Value->World->Prop) (μ:Value->World->Nat),J x0 w/\∀y0 w0,J y0 w0->B (λ z0 w1=>J z0 w1/\μ z0 w1<μ y0 w0) y0 w0
theorem LI1 (B:(Value->World->Prop)->Value->World->Prop)(x0:Value)(w:World)(J:Value->World->Prop)(μ:Value->World->Nat)(h0:J x0 w)(hr:∀y0 w0,J y0 w0->∀C:Value->World->Prop,(∀z0 w1,J z0 w1->μ z0 w1<μ y0 w0->C z0 w1)->B C y0 w0):LP1 B x0 w :=
 ⟨J,μ,h0,λ y0 w0 hJ=>hr y0 w0 hJ _ λ z0 w1 h1 h2=>⟨h1,h2⟩⟩
abbrev LS1 (B:(Value->World->Prop)->Value->World->Prop)(x0:Value)(w:World)(q:Prop):Prop:=∀(J:Value->World->Prop) (μ:Value->World->Nat) (_:J x0 w) (_:∀y0 w0,J y0 w0->∀C:Value->World->Prop,(∀z0 w1,J z0 w1->μ z0 w1<μ y0 w0->C z0 w1)->B C y0 w0),q
theorem lT1 {P:Program}{X:Pan}{c:Code}{n r:Env->World->Prop}{l:List (Nat×(Env->World->Prop))}(i0:Nat)(B:Env->(Value->World->Prop)->Value->World->Prop)(h:∀C:Value->World->Prop,TI P X (Zez c) (QX (λ z w=>C (z i0) w) r l) λ z w=>B z C (z i0) w)
  (hb:∀z,B (msk (writes (Zez c)) z)=B z:=by intro _;kernel_rfl) (e:Code.loop (Zez c)=c:=by kernel_rfl):TI P X c (QX n r l) λ z w=>LP1 (B z) (z i0) w:=λ ρ w hf=>by
 obtain ⟨J,μ,h0,hr⟩:=hf
 refine Zsr (λ ρ w=>J (ρ i0) w) (λ ρ w=>μ (ρ i0) w) h0 (λ ρ' w' hA hI=>h (λ z0 w1=>J z0 w1/\μ z0 w1<μ (ρ' i0) w') ρ' w' ?_) e
 have h1:=hr (ρ' i0) w' hI
 have e2:B ρ'=B ρ:=by rw[<-hb ρ',<-hb ρ,Zuz hA]
 show B ρ' _ (ρ' i0) w'
 rw[e2];exact h1
def LP2 (B:(Value->Value->World->Prop)->Value->Value->World->Prop)(x0 x1:Value)(w:World):Prop:=∃(J:Value->Value->World->Prop) (μ:Value->Value->World->Nat),J x0 x1 w/\∀y0 y1 w0,J y0 y1 w0->B (λ z0 z1 w1=>J z0 z1 w1/\μ z0 z1 w1<μ y0 y1 w0) y0 y1 w0
theorem LI2 (B:(Value->Value->World->Prop)->Value->Value->World->Prop)(x0 x1:Value)(w:World)(J:Value->Value->World->Prop)(μ:Value->Value->World->Nat)(h0:J x0 x1 w)(hr:∀y0 y1 w0,J y0 y1 w0->∀C:Value->Value->World->Prop,(∀z0 z1 w1,J z0 z1 w1->μ z0 z1 w1<μ y0 y1 w0->C z0 z1 w1)->B C y0 y1 w0):LP2 B x0 x1 w :=
 ⟨J,μ,h0,λ y0 y1 w0 hJ=>hr y0 y1 w0 hJ _ λ z0 z1 w1 h1 h2=>⟨h1,h2⟩⟩
abbrev LS2 (B:(Value->Value->World->Prop)->Value->Value->World->Prop)(x0 x1:Value)(w:World)(q:Prop):Prop:=∀(J:Value->Value->World->Prop) (μ:Value->Value->World->Nat) (_:J x0 x1 w) (_:∀y0 y1 w0,J y0 y1 w0->∀C:Value->Value->World->Prop,(∀z0 z1 w1,J z0 z1 w1->μ z0 z1 w1<μ y0 y1 w0->C z0 z1 w1)->B C y0 y1 w0),q
theorem lT2 {P:Program}{X:Pan}{c:Code}{n r:Env->World->Prop}{l:List (Nat×(Env->World->Prop))}(i0 i1:Nat)(B:Env->(Value->Value->World->Prop)->Value->Value->World->Prop)(h:∀C:Value->Value->World->Prop,TI P X (Zez c) (QX (λ z w=>C (z i0) (z i1) w) r l) λ z w=>B z C (z i0) (z i1) w)
  (hb:∀z,B (msk (writes (Zez c)) z)=B z:=by intro _;kernel_rfl) (e:Code.loop (Zez c)=c:=by kernel_rfl):TI P X c (QX n r l) λ z w=>LP2 (B z) (z i0) (z i1) w:=λ ρ w hf=>by
 obtain ⟨J,μ,h0,hr⟩:=hf
 refine Zsr (λ ρ w=>J (ρ i0) (ρ i1) w) (λ ρ w=>μ (ρ i0) (ρ i1) w) h0 (λ ρ' w' hA hI=>h (λ z0 z1 w1=>J z0 z1 w1/\μ z0 z1 w1<μ (ρ' i0) (ρ' i1) w') ρ' w' ?_) e
 have h1:=hr (ρ' i0) (ρ' i1) w' hI
 have e2:B ρ'=B ρ:=by rw[<-hb ρ',<-hb ρ,Zuz hA]
 show B ρ' _ (ρ' i0) (ρ' i1) w'
 rw[e2];exact h1
def Cta0 (P:Program)(id:FuncId)(run:EP->World->Prop):Prop:=∀{w:World} {S:VP},(∀R:EP,(∀v w,S v w->R (.returned v) w)->run R w)->Ct P id #[] w S
theorem ZZ156 {P:Program}{id:FuncId}{fn:Func}{c:Code}{run:EP->World->Prop}{t:Nat}(en:∀args w,(callFunc id args).run P w = .ok (.enter id args) w)(hf:P.funcs[id]?=some fn)(h:∀(R:EP) (w:World),run R w->Zbp P (pan R) c (QX (λ ρ w=>R (.returned (ρ t)) w) (λ ρ w=>R (.returned (ρ t)) w) []) (Zfc []) w)
  (hm:P.follows .mixedOrders=true:=by kernel_rfl) (hb:fn.body=some c:=by kernel_rfl) (hok:codeOk fn.ntmps c=true:=by kernel_rfl) (ha:Nat.ble 0 fn.ntmps=true:=by rfl) (hr:fn.results=#[.tmp t]:=by rfl):Cta0 P id run:=by
 intro w S hh;exact Ct.intro en λ R hR=>Zfb (args:=[]) hm hf hb hok (Qaf ha) hr (h R w (hh R hR))
def Cta1 (P:Program)(id:FuncId)(run:EP->Value->World->Prop):Prop:=∀{a0:Value} {w:World} {S:VP},(∀R:EP,(∀v w,S v w->R (.returned v) w)->run R a0 w)->Ct P id #[a0] w S
theorem Zbj {P:Program}{id:FuncId}{fn:Func}{c:Code}{run:EP->Value->World->Prop}{t:Nat}(en:∀args w,(callFunc id args).run P w = .ok (.enter id args) w)(hf:P.funcs[id]?=some fn)(h:∀(R:EP) (a0:Value) (w:World),run R a0 w->Zbp P (pan R) c (QX (λ ρ w=>R (.returned (ρ t)) w) (λ ρ w=>R (.returned (ρ t)) w) []) (Zfc [a0]) w)
  (hm:P.follows .mixedOrders=true:=by kernel_rfl) (hb:fn.body=some c:=by kernel_rfl) (hok:codeOk fn.ntmps c=true:=by kernel_rfl) (ha:Nat.ble 1 fn.ntmps=true:=by rfl) (hr:fn.results=#[.tmp t]:=by rfl):Cta1 P id run:=by
 intro a0 w S hh;exact Ct.intro en λ R hR=>Zfb (args:=[a0]) hm hf hb hok (Qaf ha) hr (h R a0 w (hh R hR))
theorem Zem {P:Program}{id:FuncId}{fn:Func}{c:Code}{run:EP->Value->World->Prop}{t u:Nat}(en:∀args w,(callFunc id args).run P w = .ok (.enter id args) w)(hf:P.funcs[id]?=some fn)(h:∀(R:EP) (a0:Value) (w:World),run R a0 w->Zbp P (pan R) c (QX (λ ρ w=>R (.returned (.tuple #[ρ t,ρ u])) w) (λ ρ w=>R (.returned (.tuple #[ρ t,ρ u])) w) []) (Zfc [a0]) w)
  (hm:P.follows .mixedOrders=true:=by kernel_rfl) (hb:fn.body=some c:=by kernel_rfl) (hok:codeOk fn.ntmps c=true:=by kernel_rfl) (ha:Nat.ble 1 fn.ntmps=true:=by rfl) (hr:fn.results=#[.tmp t,.tmp u]:=by rfl):Cta1 P id run:=by
 intro a0 w S hh;exact Ct.intro en λ R hR=>Zg4 (args:=[a0]) hm hf hb hok (Qaf ha) hr (h R a0 w (hh R hR))
def Cta2 (P:Program)(id:FuncId)(run:EP->Value->Value->World->Prop):Prop:=∀{a0 a1:Value} {w:World} {S:VP},(∀R:EP,(∀v w,S v w->R (.returned v) w)->run R a0 a1 w)->Ct P id #[a0,a1] w S
theorem Zqs {P:Program}{id:FuncId}{fn:Func}{c:Code}{run:EP->Value->Value->World->Prop}(en:∀args w,(callFunc id args).run P w = .ok (.enter id args) w)(hf:P.funcs[id]?=some fn)(h:∀(R:EP) (a0 a1:Value) (w:World),run R a0 a1 w->Zbp P (pan R) c (QX (λ ρ w=>R (.returned (.tuple #[])) w) (λ ρ w=>R (.returned (.tuple #[])) w) []) (Zfc [a0,a1]) w)
  (hm:P.follows .mixedOrders=true:=by kernel_rfl) (hb:fn.body=some c:=by kernel_rfl) (hok:codeOk fn.ntmps c=true:=by kernel_rfl) (ha:Nat.ble 2 fn.ntmps=true:=by rfl) (hr:fn.results=#[]:=by rfl):Cta2 P id run:=by
 intro a0 a1 w S hh;exact Ct.intro en λ R hR=>Ze9 (args:=[a0,a1]) hm hf hb hok (Qaf ha) hr (h R a0 a1 w (hh R hR))
theorem Zcd {P:Program}{id:FuncId}{fn:Func}{c:Code}{run:EP->Value->Value->World->Prop}{t:Nat}(en:∀args w,(callFunc id args).run P w = .ok (.enter id args) w)(hf:P.funcs[id]?=some fn)(h:∀(R:EP) (a0 a1:Value) (w:World),run R a0 a1 w->Zbp P (pan R) c (QX (λ ρ w=>R (.returned (ρ t)) w) (λ ρ w=>R (.returned (ρ t)) w) []) (Zfc [a0,a1]) w)
  (hm:P.follows .mixedOrders=true:=by kernel_rfl) (hb:fn.body=some c:=by kernel_rfl) (hok:codeOk fn.ntmps c=true:=by kernel_rfl) (ha:Nat.ble 2 fn.ntmps=true:=by rfl) (hr:fn.results=#[.tmp t]:=by rfl):Cta2 P id run:=by
 intro a0 a1 w S hh;exact Ct.intro en λ R hR=>Zfb (args:=[a0,a1]) hm hf hb hok (Qaf ha) hr (h R a0 a1 w (hh R hR))
theorem Zia {P:Program}{id:FuncId}{fn:Func}{c:Code}{run:EP->Value->Value->World->Prop}{t u:Nat}(en:∀args w,(callFunc id args).run P w = .ok (.enter id args) w)(hf:P.funcs[id]?=some fn)(h:∀(R:EP) (a0 a1:Value) (w:World),run R a0 a1 w->Zbp P (pan R) c (QX (λ ρ w=>R (.returned (.tuple #[ρ t,ρ u])) w) (λ ρ w=>R (.returned (.tuple #[ρ t,ρ u])) w) []) (Zfc [a0,a1]) w)
  (hm:P.follows .mixedOrders=true:=by kernel_rfl) (hb:fn.body=some c:=by kernel_rfl) (hok:codeOk fn.ntmps c=true:=by kernel_rfl) (ha:Nat.ble 2 fn.ntmps=true:=by rfl) (hr:fn.results=#[.tmp t,.tmp u]:=by rfl):Cta2 P id run:=by
 intro a0 a1 w S hh;exact Ct.intro en λ R hR=>Zg4 (args:=[a0,a1]) hm hf hb hok (Qaf ha) hr (h R a0 a1 w (hh R hR))
def Cta3 (P:Program)(id:FuncId)(run:EP->Value->Value->Value->World->Prop):Prop:=∀{a0 a1 a2:Value} {w:World} {S:VP},(∀R:EP,(∀v w,S v w->R (.returned v) w)->run R a0 a1 a2 w)->Ct P id #[a0,a1,a2] w S
theorem Zva {P:Program}{id:FuncId}{fn:Func}{c:Code}{run:EP->Value->Value->Value->World->Prop}(en:∀args w,(callFunc id args).run P w = .ok (.enter id args) w)(hf:P.funcs[id]?=some fn)(h:∀(R:EP) (a0 a1 a2:Value) (w:World),run R a0 a1 a2 w->Zbp P (pan R) c (QX (λ ρ w=>R (.returned (.tuple #[])) w) (λ ρ w=>R (.returned (.tuple #[])) w) []) (Zfc [a0,a1,a2]) w)
  (hm:P.follows .mixedOrders=true:=by kernel_rfl) (hb:fn.body=some c:=by kernel_rfl) (hok:codeOk fn.ntmps c=true:=by kernel_rfl) (ha:Nat.ble 3 fn.ntmps=true:=by rfl) (hr:fn.results=#[]:=by rfl):Cta3 P id run:=by
 intro a0 a1 a2 w S hh;exact Ct.intro en λ R hR=>Ze9 (args:=[a0,a1,a2]) hm hf hb hok (Qaf ha) hr (h R a0 a1 a2 w (hh R hR))
theorem Zkc {P:Program}{id:FuncId}{fn:Func}{c:Code}{run:EP->Value->Value->Value->World->Prop}{t:Nat}(en:∀args w,(callFunc id args).run P w = .ok (.enter id args) w)(hf:P.funcs[id]?=some fn)(h:∀(R:EP) (a0 a1 a2:Value) (w:World),run R a0 a1 a2 w->Zbp P (pan R) c (QX (λ ρ w=>R (.returned (ρ t)) w) (λ ρ w=>R (.returned (ρ t)) w) []) (Zfc [a0,a1,a2]) w)
  (hm:P.follows .mixedOrders=true:=by kernel_rfl) (hb:fn.body=some c:=by kernel_rfl) (hok:codeOk fn.ntmps c=true:=by kernel_rfl) (ha:Nat.ble 3 fn.ntmps=true:=by rfl) (hr:fn.results=#[.tmp t]:=by rfl):Cta3 P id run:=by
 intro a0 a1 a2 w S hh;exact Ct.intro en λ R hR=>Zfb (args:=[a0,a1,a2]) hm hf hb hok (Qaf ha) hr (h R a0 a1 a2 w (hh R hR))
theorem ZZ60 {P:Program}{id:FuncId}{fn:Func}{c:Code}{run:EP->Value->Value->Value->World->Prop}{t u:Nat}(en:∀args w,(callFunc id args).run P w = .ok (.enter id args) w)(hf:P.funcs[id]?=some fn)(h:∀(R:EP) (a0 a1 a2:Value) (w:World),run R a0 a1 a2 w->Zbp P (pan R) c (QX (λ ρ w=>R (.returned (.tuple #[ρ t,ρ u])) w) (λ ρ w=>R (.returned (.tuple #[ρ t,ρ u])) w) []) (Zfc [a0,a1,a2]) w)
  (hm:P.follows .mixedOrders=true:=by kernel_rfl) (hb:fn.body=some c:=by kernel_rfl) (hok:codeOk fn.ntmps c=true:=by kernel_rfl) (ha:Nat.ble 3 fn.ntmps=true:=by rfl) (hr:fn.results=#[.tmp t,.tmp u]:=by rfl):Cta3 P id run:=by
 intro a0 a1 a2 w S hh;exact Ct.intro en λ R hR=>Zg4 (args:=[a0,a1,a2]) hm hf hb hok (Qaf ha) hr (h R a0 a1 a2 w (hh R hR))
def Cta4 (P:Program)(id:FuncId)(run:EP->Value->Value->Value->Value->World->Prop):Prop:=∀{a0 a1 a2 a3:Value} {w:World} {S:VP},(∀R:EP,(∀v w,S v w->R (.returned v) w)->run R a0 a1 a2 a3 w)->Ct P id #[a0,a1,a2,a3] w S
theorem ZZ114 {P:Program}{id:FuncId}{fn:Func}{c:Code}{run:EP->Value->Value->Value->Value->World->Prop}(en:∀args w,(callFunc id args).run P w = .ok (.enter id args) w)(hf:P.funcs[id]?=some fn)(h:∀(R:EP) (a0 a1 a2 a3:Value) (w:World),run R a0 a1 a2 a3 w->Zbp P (pan R) c (QX (λ ρ w=>R (.returned (.tuple #[])) w) (λ ρ w=>R (.returned (.tuple #[])) w) []) (Zfc [a0,a1,a2,a3]) w)
  (hm:P.follows .mixedOrders=true:=by kernel_rfl) (hb:fn.body=some c:=by kernel_rfl) (hok:codeOk fn.ntmps c=true:=by kernel_rfl) (ha:Nat.ble 4 fn.ntmps=true:=by rfl) (hr:fn.results=#[]:=by rfl):Cta4 P id run:=by
 intro a0 a1 a2 a3 w S hh;exact Ct.intro en λ R hR=>Ze9 (args:=[a0,a1,a2,a3]) hm hf hb hok (Qaf ha) hr (h R a0 a1 a2 a3 w (hh R hR))
theorem ZZ162 {P:Program}{id:FuncId}{fn:Func}{c:Code}{run:EP->Value->Value->Value->Value->World->Prop}{t:Nat}(en:∀args w,(callFunc id args).run P w = .ok (.enter id args) w)(hf:P.funcs[id]?=some fn)(h:∀(R:EP) (a0 a1 a2 a3:Value) (w:World),run R a0 a1 a2 a3 w->Zbp P (pan R) c (QX (λ ρ w=>R (.returned (ρ t)) w) (λ ρ w=>R (.returned (ρ t)) w) []) (Zfc [a0,a1,a2,a3]) w)
  (hm:P.follows .mixedOrders=true:=by kernel_rfl) (hb:fn.body=some c:=by kernel_rfl) (hok:codeOk fn.ntmps c=true:=by kernel_rfl) (ha:Nat.ble 4 fn.ntmps=true:=by rfl) (hr:fn.results=#[.tmp t]:=by rfl):Cta4 P id run:=by
 intro a0 a1 a2 a3 w S hh;exact Ct.intro en λ R hR=>Zfb (args:=[a0,a1,a2,a3]) hm hf hb hok (Qaf ha) hr (h R a0 a1 a2 a3 w (hh R hR))
def Cta5 (P:Program)(id:FuncId)(run:EP->Value->Value->Value->Value->Value->World->Prop):Prop:=∀{a0 a1 a2 a3 a4:Value} {w:World} {S:VP},(∀R:EP,(∀v w,S v w->R (.returned v) w)->run R a0 a1 a2 a3 a4 w)->Ct P id #[a0,a1,a2,a3,a4] w S
theorem ZZ190 {P:Program}{id:FuncId}{fn:Func}{c:Code}{run:EP->Value->Value->Value->Value->Value->World->Prop}(en:∀args w,(callFunc id args).run P w = .ok (.enter id args) w)(hf:P.funcs[id]?=some fn)(h:∀(R:EP) (a0 a1 a2 a3 a4:Value) (w:World),run R a0 a1 a2 a3 a4 w->Zbp P (pan R) c (QX (λ ρ w=>R (.returned (.tuple #[])) w) (λ ρ w=>R (.returned (.tuple #[])) w) []) (Zfc [a0,a1,a2,a3,a4]) w)
  (hm:P.follows .mixedOrders=true:=by kernel_rfl) (hb:fn.body=some c:=by kernel_rfl) (hok:codeOk fn.ntmps c=true:=by kernel_rfl) (ha:Nat.ble 5 fn.ntmps=true:=by rfl) (hr:fn.results=#[]:=by rfl):Cta5 P id run:=by
 intro a0 a1 a2 a3 a4 w S hh;exact Ct.intro en λ R hR=>Ze9 (args:=[a0,a1,a2,a3,a4]) hm hf hb hok (Qaf ha) hr (h R a0 a1 a2 a3 a4 w (hh R hR))
def Cta6 (P:Program)(id:FuncId)(run:EP->Value->Value->Value->Value->Value->Value->World->Prop):Prop:=∀{a0 a1 a2 a3 a4 a5:Value} {w:World} {S:VP},(∀R:EP,(∀v w,S v w->R (.returned v) w)->run R a0 a1 a2 a3 a4 a5 w)->Ct P id #[a0,a1,a2,a3,a4,a5] w S
theorem ZZ152 {P:Program}{id:FuncId}{fn:Func}{c:Code}{run:EP->Value->Value->Value->Value->Value->Value->World->Prop}(en:∀args w,(callFunc id args).run P w = .ok (.enter id args) w)(hf:P.funcs[id]?=some fn)(h:∀(R:EP) (a0 a1 a2 a3 a4 a5:Value) (w:World),run R a0 a1 a2 a3 a4 a5 w->Zbp P (pan R) c (QX (λ ρ w=>R (.returned (.tuple #[])) w) (λ ρ w=>R (.returned (.tuple #[])) w) []) (Zfc [a0,a1,a2,a3,a4,a5]) w)
  (hm:P.follows .mixedOrders=true:=by kernel_rfl) (hb:fn.body=some c:=by kernel_rfl) (hok:codeOk fn.ntmps c=true:=by kernel_rfl) (ha:Nat.ble 6 fn.ntmps=true:=by rfl) (hr:fn.results=#[]:=by rfl):Cta6 P id run:=by
 intro a0 a1 a2 a3 a4 a5 w S hh;exact Ct.intro en λ R hR=>Ze9 (args:=[a0,a1,a2,a3,a4,a5]) hm hf hb hok (Qaf ha) hr (h R a0 a1 a2 a3 a4 a5 w (hh R hR))
structure Rep (α:Type) where
 size:Nat
 bytes:Nat
 ok:World->Nat->List Value->α->Prop
 len:∀{w B cs x},ok w B cs x->cs.length=size
 keep:∀{w w' B B' cs x},ok w B cs x->B<=B'->(∀b,b<B->w'.heap[b]?=w.heap[b]?)->ok w' B' cs x
 one:∀{w B cs x},ok w B cs x->∀u∈cs,u.oneCell'=true
 fit:α->Prop:=λ _=>True
 bulk:α->Nat:=λ _=>0
def Zz0:Nat:=0x7ffffffff000
def Rep.at1 {α:Type}(r:Rep α)(w:World)(B:Nat)(v:Value)(x:α):Prop:=r.ok w B [v] x
def Rep.atN {α:Type}(r:Rep α)(w:World)(B:Nat)(v:Value)(x:α):Prop:=∃cs,v = .agg cs.toArray/\r.ok w B cs x
def Zaf:Nat:=140737488355328
def Zdf (x:Int):Prop := -9223372036854775808<=x/\x<=9223372036854775807
def rInt:Rep Int where
 size:=1
 bytes:=8
 ok _ _ cs x:=cs=[.int .i64 x]/\Zdf x
 len h:=by rw[h.1];rfl
 keep h _ _:=h
 one h u hu:=by rw[h.1]at hu;simp at hu;subst hu;rfl
 bulk _:=1
def rStr:Rep ByteArray where
 size:=1
 bytes:=16
 ok _ _ cs x:=cs=[.string x]/\x.size<=maxLen
 len h:=by rw[h.1];rfl
 keep h _ _:=h
 one h u hu:=by rw[h.1]at hu;simp at hu;subst hu;rfl
 fit x:=x.size<=Zz0
 bulk x:=x.size+1
def Rep.prod {α β:Type}(r:Rep α)(s:Rep β):Rep (α×β) where
 size:=r.size+s.size
 bytes:=r.bytes+s.bytes
 ok w B cs x:=∃c1 c2,cs=c1++c2/\r.ok w B c1 x.1/\s.ok w B c2 x.2
 len:=by rintro w B cs x ⟨c1,c2,rfl,h1,h2⟩;rw[Qq,r.len h1,s.len h2]
 keep:=by rintro w w' B B' cs x ⟨c1,c2,rfl,h1,h2⟩ hB hb;exact ⟨c1,c2,rfl,r.keep h1 hB hb,s.keep h2 hB hb⟩
 one:=by
  rintro w B cs x ⟨c1,c2,rfl,h1,h2⟩ u hu
  rcases Qk.1 hu with hu|hu
  ·exact r.one h1 u hu
  ·exact s.one h2 u hu
 fit x:=r.fit x.1/\s.fit x.2
 bulk x:=r.bulk x.1+s.bulk x.2
def Rep.map {α β:Type}(r:Rep α)(f:β->α):Rep β where
 size:=r.size
 bytes:=r.bytes
 ok w B cs x:=r.ok w B cs (f x)
 len h:=r.len h
 keep h:=r.keep h
 one h:=r.one h
 fit x:=r.fit (f x)
 bulk x:=r.bulk (f x)
def Zq {α:Type}(r:Rep α):Rep (List α) where
 size:=1
 bytes:=24
 ok w B cs l:=∃A c,cs=[.slice A l.length c]/\l.length<=c/\c<=maxLen/\True /\
  (0<l.length->∃b o,A=some ⟨b,o,none⟩/\b<B/\∀i x,l[i]?=some x->∃ys,r.ok w B ys x/\∀j u,ys[j]?=some u->w.cell? ⟨b,o+(i*r.size+j),none⟩=some u)
 len:=by rintro w B cs x ⟨A,c,rfl,_⟩;rfl
 keep:=by
  rintro w w' B B' cs l ⟨A,c,rfl,h1,h2,h3,h4⟩ hB hb
  refine ⟨A,c,rfl,h1,h2,h3,λ hl=>?_⟩
  obtain ⟨b,o,rfl,hbB,hc⟩:=h4 hl
  refine ⟨b,o,rfl,by omega,λ i x hi=>?_⟩
  obtain ⟨ys,hy,hcell⟩:=hc i x hi
  exact ⟨ys,r.keep hy hB hb,λ j u hu=>(World.cell?_of_block (hb b hbB)).trans (hcell j u hu)⟩
 one:=by rintro w B cs x ⟨A,c,rfl,_⟩ u hu;simp at hu;subst hu;rfl
 fit l:=l.length*r.bytes<=Zz0/\∀x∈l,r.fit x
 bulk l:=(l.map r.bulk).sum+1
section
variable {α:Type} {r:Rep α} {w w':World} {B B':Nat} {v:Value} {l:List α}
theorem Rep.below {cs:List Value}{x:α}(h:r.ok w B cs x)(hb:Below B w w'):r.ok w' B cs x:=r.keep h (Ql _) hb.block
theorem Rep.up {cs:List Value}{x:α}(h:r.ok w B cs x)(hB:B<=B'):r.ok w B' cs x:=r.keep h hB λ _ _=>rfl
theorem Zz (h:(Zq r).at1 w B v l):∃A c,v = .slice A l.length c/\l.length<=c/\c<=maxLen/\True:=by
 obtain ⟨A,c,hv,h1,h2,h3,_⟩:=h;exact ⟨A,c,by simpa using hv,h1,h2,h3⟩
theorem Zek {A:Option Addr}{n c:Nat}(h:(Zq r).at1 w B (.slice A n c) l){i:Nat}(hi:i<l.length) :
  ∃b o ys,A=some ⟨b,o,none⟩/\b<B/\r.ok w B ys l[i]/\∀j u,ys[j]?=some u->w.cell? ⟨b,o+(i*r.size+j),none⟩=some u:=by
 obtain ⟨A',c',hv,h1,h2,h3,h4⟩:=h;obtain ⟨b,o,rfl,hb,hc⟩:=h4 (by omega);obtain ⟨ys,hy,hcell⟩:=hc i l[i] (Qb hi);injection hv with hv;injection hv with hA;exact ⟨b,o,ys,hA,hb,hy,hcell⟩
theorem ints_at {A:Option Addr}{n c:Nat}{l:List Int}(h:(Zq rInt).at1 w B (.slice A n c) l){i:Nat}(hi:i<l.length) :
  ∃b o,A=some ⟨b,o,none⟩/\b<B/\w.cell? ⟨b,o+i,none⟩=some (.int .i64 l[i])/\Zdf l[i]:=by
 obtain ⟨b,o,ys,hA,hb,⟨rfl,hr⟩,hc⟩:=Zek h hi;exact ⟨b,o,hA,hb,by simpa[rInt]using hc 0 _ rfl,hr⟩
theorem strs_at {A:Option Addr}{n c:Nat}{l:List ByteArray}(h:(Zq rStr).at1 w B (.slice A n c) l){i:Nat}(hi:i<l.length) :
  ∃b o,A=some ⟨b,o,none⟩/\b<B/\w.cell? ⟨b,o+i,none⟩=some (.string l[i])/\l[i].size<=maxLen:=by
 obtain ⟨b,o,ys,hA,hb,⟨rfl,hr⟩,hc⟩:=Zek h hi;exact ⟨b,o,hA,hb,by simpa[rStr]using hc 0 _ rfl,hr⟩
end
theorem Zcv {k n:Nat}(hk:k<n)(hn:n<=maxLen):IntKind.i64.wrap ((k:Int)+1)=(k:Int)+1:=by
 unfold maxLen at hn;exact IntWalk.i64_in _ (by omega)
def iv:Value->Nat | .int _ q=>q.toNat | _=>0
open Go.ChangeShapes Go.WideShapes Go.ChangeAt
section
variable {H:Type} {enc:TypeId×Value->H} {P:Program} {W W':World}
theorem Zhj (hl:laidOutB P=true){sp:Nat->Bool}:∀{ts:List TypeId} {vs:List Value} {ds:List (DataW H)} {ps:List MemPlace},(∀t∈ts,P.readableRec t=true/\t<P.types.size) ->
  DataW.TrodAll enc P W 0 (λ _=>true) true ts vs ds ps->(∀x∈ps,W.sameAt W' x)->(∀x∈ps,sp x.block=true)->DataW.TrodAll enc P W' 0 sp true ts vs ds ps
 | [],_,_,_,_,h,_,_=>by
  obtain ⟨rfl,rfl,rfl⟩:=trodAll_nil h
  rfl
 | t::ts,_,_,_,ht,h,hs,hsp=>by
  obtain ⟨v,vs,d,ds,p,q,rfl,rfl,rfl,h1,h2⟩:=trodAll_cons h
  obtain ⟨hr,hrow⟩:=ht t (by simp)
  exact trodAll_cons_mk (WideElems.Trod_stays hl hr hrow h1 (λ x hx=>hs x (by simp[hx])) (λ x hx=>hsp x (by simp[hx])))
   (Zhj hl (λ t ht'=>ht t (by simp[ht'])) h2 (λ x hx=>hs x (by simp[hx])) (λ x hx=>hsp x (by simp[hx])))
theorem Zzb {f:Func}{s:ChangeSpec}{args:Array Value}{ds gs:List (DataW H)}{before:List MemPlace}{t:TypeId}
  (hl:laidOutB P=true) (hread:∀t∈f.params.toList,P.readableRec t=true/\t<P.types.size) (hvars:s.vars=[]) (hbool:P.underlying t=some .bool) (hrt:f.resultTypes=#[t])
  (hW:DataW.Whole enc P f.params.toList s.vars false W args.toList ds gs before)
  (hres:(s.fn H (ds++gs)).results=[.lit (.bool true)]) (hargs:(s.fn H (ds++gs)).args=ds) (hvs:(s.fn H (ds++gs)).vars=[]) (hb:Below W.heap.size W W') :
  s.post enc P f false true false false W args (.bool true) W':=by
 have hlt:∀p∈before,p.block<W.heap.size:=λ p hp=>hW.lt p hp;have hW0:=hW;obtain ⟨p,q,hA,hV,rfl,_,_⟩:=hW;rw[hvars]at hV;have hV':=hV;obtain ⟨rfl,rfl⟩:=trodVars_none hV;refine ⟨ds,[],p++[],[],p,[],hW0,?_,?_,?_,?_,λ h=>by cases h⟩
 ·rw[hres,hrt];exact trodAll_cons_mk (shut_bool hbool true) trodAll_mk0
 ·rw[hargs];exact Zhj hl hread hA (λ x hx=>hb.same (hlt x (by simpa using hx))) (λ x hx=>by simpa using hlt x (by simpa using hx))
 ·rw[hvs,hvars];rfl
 ·exact World.keptBut_mono (λ x hx=>⟨hx,Or.inr (by simpa using hx)⟩) (hb.frame (·∈p++[]))
end
structure Chg (F:Nat->Prop)(w w':World):Prop where
 os:w'.os=w.os
 tape:w'.tape=w.tape
 output:w'.output=w.output
 size:w.heap.size<=w'.heap.size
 block:∀k,k<w.heap.size->¬F k->w'.heap[k]?=w.heap[k]?
section
variable {F G:Nat->Prop} {a b c w w':World}
theorem Chg.refl (F:Nat->Prop)(w:World):Chg F w w:=⟨rfl,rfl,rfl,Ql _,λ _ _ _=>rfl⟩
theorem Chg.trans (h:Chg F a b)(k:Chg F b c):Chg F a c :=
 ⟨k.os.trans h.os,k.tape.trans h.tape,k.output.trans h.output,Qav h.size k.size,λ i hi hF=>(k.block i (Qaj hi h.size) hF).trans (h.block i hi hF)⟩
theorem Chg.trans' (h:Chg F a b)(k:Chg G b c)(hG:∀i,i<a.heap.size->G i->F i):Chg F a c :=
 ⟨k.os.trans h.os,k.tape.trans h.tape,k.output.trans h.output,Qav h.size k.size,λ i hi hF=>(k.block i (Qaj hi h.size) (λ hg=>hF (hG i hi hg))).trans (h.block i hi hF)⟩
theorem Chg.mono (h:Chg F w w')(hF:∀i,i<w.heap.size->F i->G i):Chg G w w':=⟨h.os,h.tape,h.output,h.size,λ k hk hg=>h.block k hk λ hf=>hg (hF k hk hf)⟩
theorem Chg.drew (h:Chg F a w):Chg F a w.drew:=⟨h.os,h.tape,h.output,h.size,h.block⟩
theorem Chg.alloc (h:Chg F a w)(o:Obj):Chg F a (w.alloc o) :=
 h.trans' (G:=λ _=>False) ⟨rfl,rfl,rfl,by simp,λ k hk _=>Below.heap_alloc _ _ _ hk⟩ (λ _ _ h=>h.elim)
theorem Chg.setCell (h:Chg F a w){p:Addr}(hp:F p.block\/a.heap.size<=p.block)(u:Value):Chg F a (w.setCell p u) :=
 ⟨h.os,h.tape,h.output,by simpa using h.size,λ k hk hF=>by
  rw[Below.heap_setCell _ _ _ _ (by rintro rfl;rcases hp with hp | hp;exact hF hp;omega)]
  exact h.block k hk hF⟩
theorem Chg.grown {row:Option Nat}(h:Chg F a w)(hg:w.grownBy w' row)(hr:∀k,row=some k->F k\/a.heap.size<=k):Chg F a w' :=
 ⟨hg.os.trans h.os,hg.tape.trans h.tape,hg.output.trans h.output,Qav h.size hg.size,λ k hk hF=>by
  rw[hg.block k (Qaj hk h.size) (λ e=>by rcases hr k e.symm with h1 | h1;exact hF h1;omega)]
  exact h.block k hk hF⟩
theorem Chg.cell (h:Chg F w w'){p:Addr}(hp:p.block<w.heap.size)(hF:¬F p.block):w'.cell? p=w.cell? p:=World.cell?_of_block (w:=w) (h.block p.block hp hF)
theorem Chg.at (h:Chg F w w'){p:Addr}{v:Value}(hv:w.cell? p=some v)(hF:¬F p.block):w'.cell? p=some v:=(h.cell (World.block_lt_of_cell? w p hv) hF).trans hv
theorem Chg.frozen (h:Chg F w w'){p:Addr}(hp:p.block<w.heap.size)(hF:¬F p.block):w'.frozen? p=w.frozen? p:=World.frozen?_of_block (w:=w) (h.block p.block hp hF)
theorem Chg.below {B:Nat}(h:Chg F w w')(hB:B<=w.heap.size)(hF:∀k,k<B->¬F k):Below B w w':=⟨h.os,h.tape,h.output,h.size,λ k hk=>h.block k (by omega) (hF k hk)⟩
theorem Below.chg (h:Below w.heap.size w w'):Chg F w w':=⟨h.os,h.tape,h.output,h.size,λ k hk _=>h.block k hk⟩
end
def bt (s:ByteArray)(i:Nat):Nat:=if h:i<s.size then (s[i]'h).toNat else 0
theorem bt_lt (s:ByteArray)(i:Nat):bt s i<256:=by
 unfold bt;split
 ·exact UInt8.toNat_lt _
 ·omega
section
variable {P:Program} {w:World}
theorem Zdr {t:TypeId}{s:ByteArray}{k:IntKind}{i:Nat}(h:P.underlying t=some .string)(hi:i<s.size):(Instr.index t (.string s) (.int k (i:Int))).run P w = .ok (.int .u8 (bt s i)) w:=by
 rw[run_index_string w t s k i h,dif_pos (by omega)];unfold bt;rw[dif_pos hi];rfl
end
theorem Zfe {w:World}{base e size:Nat}{v:Value}{n:Nat}{xs:List Value}(h:w.ownsRow base e size v n xs){k:Nat}(hk:v.ownBlock=some k):base<=k/\k<w.heap.size:=by
 rcases h.2 with ⟨rfl,_⟩|⟨g,cap,cur,rfl,hb,hg,_⟩
 ·cases hk
 ·cases hk;exact ⟨hb,(Qw.1 hg).1⟩
theorem Ziv {α:Type}{r:Rep α}{enc:α->List Value}{w:World}{base e B:Nat}{v:Value}{l:List α}(h:w.ownsRow base e r.size v l.length (l.flatMap enc))
  (hsz:∀x∈l,(enc x).length=r.size) (hr:∀x∈l,r.ok w B (enc x) x) (hB:w.heap.size<=B):(Zq r).at1 w B v l:=by
 rcases h.2 with ⟨rfl,hn⟩|⟨g,cap,cur,rfl,_,hg,hnc,hcm,hcs,htake⟩
 ·exact ⟨none,0,by rw[hn],by omega,by simp[maxLen],trivial,λ h=>by omega⟩
 ·refine ⟨some ⟨g,0,none⟩,cap,rfl,hnc,hcm,trivial,λ _=>⟨g,0,rfl,?_,λ i x hi=>⟨enc x,hr x (Qe hi),λ j u hj=>?_⟩⟩⟩
  ·have:=(Qw.1 hg).1;omega
  ·have hil:=(Qa.1 hi).1;have hx:=(Qa.1 hi).2;have hjl:j<r.size:=by have:=(Qa.1 hj).1;rw[hsz x (Qe hi)]at this;exact this
   have key:∀(l:List α) (i:Nat) (x:α),(∀x∈l,(enc x).length=r.size)->l[i]?=some x->(l.flatMap enc)[i*r.size+j]?=(enc x)[j]?:=by
    intro l
    induction l with
    | nil=>intro i x _ h;simp at h
    | cons y l ih=>
     intro i x hs h
     cases i with
     | zero=>
      simp at h;subst h;rw[Qan,Nat.zero_mul,Qa3,Qf (by rw[hs y (by simp)];exact hjl)]
     | succ i=>
      rw[Qan,Qi (by rw[hs y (by simp),Qbw];omega),hs y (by simp),Qbw,show i*r.size+r.size+j-r.size=i*r.size+j by omega];exact ih i x (λ z hz=>hs z (by simp[hz])) (by simpa using h)
   have hk:=key l i x hsz hi;rw[hj,<-htake]at hk;have hk2:cur.toList[i*r.size+j]?=some u:=by
    rw[Qbm]at hk;split at hk
    ·exact hk
    ·cases hk
   simp only[World.cell?,hg,Qa3];simpa using hk2
theorem Zdj (w:World)(l:List Value)(t:TypeId){n:Nat}(hn:n=w.heap.size):∀j u,l[j]?=some u->(w.alloc (.cells l.toArray t)).cell? ((⟨n,0,none⟩:Addr).add j)=some u:=by
 intro j u hj;subst hn;rw[Addr.add_lit,World.cell?_alloc_new,Qc3,Qa3];exact hj
theorem Zuy {F:Nat->Prop}{w w':World}{row:Option Nat}(hg:w.grownBy w' row)(hr:∀k,row=some k->F k):Chg F w w' :=
 Chg.grown (Chg.refl F w) hg λ k hk=>Or.inl (hr k hk)
structure KeyT (κ:Type) where
 val:κ->Value
 lit:κ->Lit
 good:κ->Prop
 inj:∀{a b},lit a=lit b->a=b
 isLit:∀a,WideAt.IsKeyLit (lit a)
def kStr:KeyT ByteArray where
 val s := .string s
 lit s := .string s.data.toList
 good s:=s.size<=maxLen
 inj:=by
  intro a b h
  cases a;cases b
  simp at h
  cases h;rfl
 isLit _:=trivial
def kInt:KeyT Int where
 val x := .int .i64 x
 lit x := .int .i64 x
 good x:=Zdf x
 inj:=by intro a b h;simpa using h
 isLit _:=trivial
structure Zl0 (P:Program){κ:Type}(Y:KeyT κ)(t k e:TypeId):Prop where
 tm:P.underlying t=some (.map k e)
 te:P.underlying e=some (.int .i64)
 keyed:Maps.Keyed P k
 key:∀a:κ,Y.good a->keyOf P k (Y.val a)=some (Y.lit a)
 zero:∀w,(zeroValue e).run P w = .ok (.int .i64 0) w
def Zfu (P:Program){κ:Type}(Y:KeyT κ)(k e:TypeId)(w:World)(v:Value)(n:Nat)(f:κ->Int):Prop :=
 (v = .map none/\n=0/\∀a,f a=0)\/∃b,v = .map (some b)/\∃D:DataW Unit,w.ownsMap P k (plainElem P e) b n D/\Maps.size D=n/\(∀a:κ,D.atKey (Y.lit a) (.lit (.int .i64 0)) = .lit (.int .i64 (f a)))/\∀a:κ,Maps.has D (Y.lit a)=true->f a≠0
section
variable {P:Program} {κ:Type} {Y:KeyT κ} {t k e:TypeId} {w w':World} {v:Value} {n:Nat} {f:κ->Int}
theorem Zfu.nil:Zfu P Y k e w (.map none) 0 (λ _=>0):=Or.inl ⟨rfl,rfl,λ _=>rfl⟩
theorem Zfu.chg {F:Nat->Prop}(h:Zfu P Y k e w v n f)(hc:Chg F w w')(hF:∀b,v = .map (some b)->¬F b):Zfu P Y k e w' v n f:=by
 rcases h with h|⟨b,hv,D,hD,r⟩
 ·exact Or.inl h
 ·refine Or.inr ⟨b,hv,D,?_,r⟩;obtain ⟨es,clock,hb,h2⟩:=hD;exact ⟨es,clock,(hc.block b (Qw.1 hb).1 (hF b hv)).trans hb,h2⟩
theorem Zfu.lt (h:Zfu P Y k e w v n f){b:Nat}(hv:v = .map (some b)):b<w.heap.size:=by
 rcases h with h|⟨b',hv',D,hD,_⟩
 ·rw[h.1]at hv;cases hv
 ·rw[hv']at hv;cases hv;exact hD.lt
theorem Zfu.lookup (T:Zl0 P Y t k e)(h:Zfu P Y k e w v n f)(a:κ)(ha:Y.good a):(Instr.lookup t v (Y.val a) false).run P w = .ok (.int .i64 (f a)) w:=by
 rcases h with ⟨rfl,_,h0⟩|⟨b,rfl,D,hD,_,hat,_⟩
 ·rw[h0 a];obtain h:=Maps.look_nil (w:=w) false T.keyed T.tm (T.zero w) (T.key a ha);simpa using h
 ·obtain ⟨c,hrun,hc,_⟩:=hD.lookup_int T.keyed T.tm T.te (T.zero w) (T.key a ha);rw[hat a]at hc;injection hc with hc;injection hc with _ hc;rw[hrun,hc]
open Classical in
theorem Zfu.update (T:Zl0 P Y t k e){b:Nat}(h:Zfu P Y k e w (.map (some b)) n f)(a:κ)(ha:Y.good a)(hn:n<maxLen){x:Int}(hx:Zdf x)(hx0:x≠0) :
  ∃w',(Instr.mapUpdate t (.map (some b)) (Y.val a) (.int .i64 x)).run P w = .ok () w'/\Zfu P Y k e w' (.map (some b)) (if f a=0 then n+1 else n) (λ c=>if c=a then x else f c)/\w.grownBy w' (some b):=by
 rcases h with ⟨hv,_⟩|⟨b',hv,D,hD,hsz,hat,hhas⟩
 ·cases hv
 ·cases hv;have hwf:(Lit.int .i64 x).wf=true:=by
   have hm:IntKind.i64.min = -9223372036854775808:=by decide
   obtain ⟨h1,h2⟩:=hx;simp[Lit.wf,hm];omega
  obtain ⟨w',hrun,hown,hg⟩:=hD.update T.keyed T.tm hn (T.key a ha) (plainElem_int (H:=Unit) (P:=P) T.te hwf);have hsz':=Maps.size_put (hD.tidy T.keyed) (k:=Y.lit a) (.lit (.int .i64 x));have hfa:f a=0↔Maps.has D (Y.lit a)=false:=by
   constructor
   ·intro h0;rw[Qb5];intro hh;exact hhas a hh h0
   ·intro hh;have:=Maps.atKey_of_not_has hh (.lit (.int .i64 0));rw[hat a]at this;injection this with this;injection this with _ this
  have hsize:Maps.size (D.put (Y.lit a) (.lit (.int .i64 x)))=if f a=0 then n+1 else n:=by
   rw[hsz',hsz];by_cases h0:f a=0
   ·rw[if_pos h0,hfa.1 h0];rfl
   ·rw[if_neg h0];have:Maps.has D (Y.lit a)=true:=by
     cases hh:Maps.has D (Y.lit a) with
     | true=>rfl
     | false=>exact absurd (hfa.2 hh) h0
    rw[this];rfl
  refine ⟨w',hrun,Or.inr ⟨b,rfl,_,?_,hsize,λ c=>?_,λ c hc=>?_⟩,hg⟩
  ·rw[<-hsize];obtain ⟨es,clock,hb,F,hs,hD'⟩:=hown;refine ⟨es,clock,hb,F,?_,hD'⟩;rw[hD',Maps.size_eq,length_read];exact Ql _
  ·by_cases hca:c=a
   ·subst hca;rw[Maps.atKey_put_same hD.isMap (Y.isLit c)];simp only[if_true]
   ·rw[Maps.atKey_put_other (λ e=>hca (Y.inj e)),hat c];simp only[if_neg hca]
  ·by_cases hca:c=a
   ·simp only[if_pos hca];exact hx0
   ·simp only[if_neg hca];rw[Maps.has_put_other (λ e=>hca (Y.inj e))]at hc;exact hhas c hc
theorem Zfu.len (T:Zl0 P Y t k e)(h:Zfu P Y k e w v n f)(ty:TypeId):(Builtin.len_ #[t] ty #[v]).run P w = .ok (.int .i64 n) w:=by
 rcases h with ⟨rfl,rfl,_⟩|⟨b,rfl,D,hD,hsz,_⟩
 ·exact Maps.len_nil T.tm ty
 ·rw[hD.len T.tm ty,hsz]
theorem Zfu.made (P:Program){κ:Type}(Y:KeyT κ)(k e:TypeId)(w:World):Zfu P Y k e (w.alloc (.map #[] 0)) (.map (some w.heap.size)) 0 (λ _=>0) :=
 Or.inr ⟨_,rfl,_,World.ownsMap_made w P k _,rfl,λ _=>rfl,λ a h=>by cases h⟩
end
structure Zwx {H:Type}(ub:DataW H->Nat)(uba:List (DataW H)->Nat):Prop where
 str:∀b,ub (.lit (.string b))=b.length+1
 lit:∀l,1<=ub (.lit l)
 nil:1<=ub .nil
 slice:∀e s,ub (.slice e s)=uba e+uba s+1
 agg:∀p,ub (.agg p)=uba p+1
 all0:uba []=0
 allc:∀d r,uba (d::r)=ub d+uba r
def Zlf {H:Type}(n:Nat)(d:DataW H):Prop:=∀(ub:DataW H->Nat) (uba:List (DataW H)->Nat),Zwx ub uba->n<=ub d
def ZZ66 {H:Type}(n:Nat)(d:List (DataW H)):Prop:=∀(ub:DataW H->Nat) (uba:List (DataW H)->Nat),Zwx ub uba->n<=uba d
def Zfg {α:Type}(P:Program)(t:TypeId)(r:Rep α):Prop :=
 P.cellsOf t=r.size/\P.bytesOf t=r.bytes/\∀{H:Type} (enc:TypeId×Value->H) (W:World) (base:Nat) (sp:Nat->Bool) (held:Bool) (fuel:Nat) (cs:List Value) (x:DataW H×List MemPlace),
  DataW.trod enc P W base sp held fuel t cs=some x->∃a,r.ok W W.heap.size cs a/\((x.1.weights P t).all (·<=reachBytes)=true->r.fit a)/\Zlf (r.bulk a) x.1
section
variable {P:Program} {t:TypeId}
theorem Ztx (ht:P.underlying t=some (.int .i64))(hc:P.cellsOf t=1)(hb:P.bytesOf t=8):Zfg P t rInt:=by
 refine ⟨hc,hb,λ enc W base sp held fuel cs x h=>?_⟩;obtain ⟨n,rfl,rfl,hw⟩:=DataW.trod_int ht h;refine ⟨n,⟨rfl,?_⟩,λ _=>trivial,λ ub uba hb=>by subst_vars;exact hb.lit _⟩;simp[Lit.wf]at hw;unfold Zdf;have hm:IntKind.i64.min = -9223372036854775808:=by decide
 rw[hm]at hw;exact hw
theorem Zts (ht:P.underlying t=some .string)(hc:P.cellsOf t=1)(hb:P.bytesOf t=16):Zfg P t rStr:=by
 refine ⟨hc,hb,λ enc W base sp held fuel cs x h=>?_⟩;obtain ⟨s,rfl,rfl,hs⟩:=DataW.trod_string ht h;refine ⟨s,⟨rfl,hs⟩,λ hw=>?_,λ ub uba hb=>by rw[hb.str];simp[rStr]⟩;have:s.size<=reachBytes:=by simpa[DataW.weights]using hw
 exact this
theorem Zkd {P:Program}{e:TypeId}{H:Type}:∀{l:List (DataW H)} {d:DataW H},(DataW.weightsAll P e l).all (·<=reachBytes)=true->d∈l->(d.weights P e).all (·<=reachBytes)=true
 | [],_,_,h=>by cases h
 | x::l,d,hw,h=>by
  simp only[DataW.weightsAll,Qbn,Qad]at hw
  rcases Qaa.1 h with rfl|h
  ·exact hw.1
  ·exact Zkd hw.2 h
theorem Zqh {α H:Type}{bk:α->Nat}{ub:DataW H->Nat}{uba:List (DataW H)->Nat}(hb:Zwx ub uba):∀{l:List α} {ds:List (DataW H)},l.length=ds.length->(∀(i:Nat) (y:α) (d:DataW H),l[i]?=some y->ds[i]?=some d->Zlf (bk y) d)->(l.map bk).sum<=uba ds
 | [],_,_,_=>by simp
 | y::l,[],h,_=>by simp at h
 | y::l,d::ds,h,hd=>by
  rw[hb.allc,Qbu,Qdo]
  have h1:=hd 0 y d rfl rfl ub uba hb
  have h2:=Zqh hb (l:=l) (ds:=ds) (bk:=bk) (by simpa using h) λ i y d hy hd'=>hd (i+1) y d (by simpa using hy) (by simpa using hd')
  omega
theorem Zfq {α:Type}{r:Rep α}{e:TypeId}(ht:P.underlying t=some (.slice e))(hc:P.cellsOf t=1)(hb:P.bytesOf t=24)(hpos:0<r.size)(he:Zfg P e r):Zfg P t (Zq r):=by
 refine ⟨hc,hb,λ enc W base sp held fuel cs x h=>?_⟩;rcases DataW.trod_slice ht h with ⟨rfl,rfl⟩|⟨a,len,cap,elems,rest,n,_,rfl,rfl,_,hl,hm,hlen,hel,_,_⟩
 ·exact ⟨[],⟨none,0,rfl,by simp,by simp[maxLen],trivial,λ h=>by simp at h⟩,λ _=>⟨by simp,by simp⟩,λ ub uba hb=>hb.nil⟩
 ·have each:∀i,i<len->∃y,(∀z,elems[i]?=some z->((z.1.weights P e).all (·<=reachBytes)=true->r.fit y)/\Zlf (r.bulk y) z.1)/\∃ys,r.ok W W.heap.size ys y/\∀j u,ys[j]?=some u->W.cell? (a.add (i*r.size+j))=some u:=by
   intro i hi;have h1:=hel i hi;rw[Qb (by omega),Option.bind_eq_some_iff]at h1;obtain ⟨cs',hcs,hy⟩:=h1;obtain ⟨y,hy,hfit,hbk⟩:=he.2.2 enc W base sp held n cs' _ hy;obtain ⟨_,hlen',hcell⟩:=World.cells?_some hcs;refine ⟨y,λ z hz=>by rw[Qb (by omega)]at hz;cases hz;exact ⟨hfit,hbk⟩,cs',hy,λ j u hj=>?_⟩;have hjl:=(Qa.1 hj).1;have h2:=hcell j (by omega);rw[hj,he.1]at h2;rw[<-h2];congr 1;unfold Addr.add;by_cases h0:i*r.size=0
   ·rw[h0];simp
   ·by_cases hj0:j=0
    ·subst hj0;simp[h0]
    ·          simp[h0,hj0,Qck]
  have mk:∀n,n<=len->∃l:List α,l.length=n/\∀i y,l[i]?=some y->(∀z,elems[i]?=some z->((z.1.weights P e).all (·<=reachBytes)=true->r.fit y)/\Zlf (r.bulk y) z.1)/\∃ys,r.ok W W.heap.size ys y/\∀j u,ys[j]?=some u->W.cell? (a.add (i*r.size+j))=some u:=by
   intro n
   induction n with
   | zero=>exact λ _=>⟨[],rfl,λ i y h=>by simp at h⟩
   | succ n ih=>
    intro hn;obtain ⟨l,hll,hl'⟩:=ih (by omega);obtain ⟨y,hy⟩:=each n (by omega);refine ⟨l++[y],by simp[hll],λ i z hz=>?_⟩;by_cases hi:i<l.length
    ·rw[Qf hi]at hz;exact hl' i z hz
    ·rw[Qi (by omega)]at hz;have hi0:i-l.length=0:=by
      have:=(Qa.1 hz).1;simp at this;omega
     rw[hi0]at hz;simp at hz;subst hz;have:i=n:=by omega
     subst this;exact hy
  obtain ⟨l,hll,hl'⟩:=mk len (Ql _);refine ⟨l,⟨some a,cap,by rw[hll],by omega,hm,trivial,λ hpos'=>?_⟩,λ hw=>?_,λ ub uba hb=>?_⟩
  case refine_3=>
   rw[hb.slice];have hsum:(l.map r.bulk).sum<=uba (elems.map (·.1)):=Zqh hb (by simp;omega) λ i y z hy hz=>by
    rw[Qh,Q4]at hz;obtain ⟨z',hz',rfl⟩:=hz;exact ((hl' i y hy).1 z' hz').2
   show (l.map r.bulk).sum+1<=_
   omega
  case refine_2=>
   simp only[DataW.weights,ht,List.all_cons,Qbn,Qad,decide_eq_true_eq,Qp]at hw;refine ⟨?_,λ x hx=>?_⟩
   ·have h1:=hw.1;rw[he.2.1]at h1;refine Qav (Qbr _ ?_) h1;omega
   ·obtain ⟨i,hi⟩:=List.getElem?_of_mem hx;have hil:=(Qa.1 hi).1;refine ((hl' i x hi).1 elems[i] (Qb (by omega))).1 ?_;exact Zkd hw.2.1 (List.mem_map_of_mem (Qj _))
  have h0:=hl' 0 l[0] (Qb hpos');obtain ⟨_,ys,hok,hcell⟩:=h0;have hylen:=r.len hok;have hc0:=hcell 0 ys[0] (Qb (by omega));have ha:a=⟨a.block,a.off,none⟩:=by
   simp[Addr.add]at hc0;unfold World.cell? at hc0;split at hc0
   ·split at hc0
    ·cases hc0
    ·rename_i hsp
     cases a with
     | mk b o s=>cases s with
      | none=>rfl
      | some s=>simp at hsp
   ·cases hc0
  have hblk:=World.block_lt_of_cell? W _ hc0;refine ⟨a.block,a.off,by rw[<-ha],?_,λ i y hi=>?_⟩
  ·rw[ha]at hblk;simpa[Addr.add]using hblk
  ·obtain ⟨_,ys,hok,hcell⟩:=hl' i y hi;refine ⟨ys,hok,λ j u hj=>?_⟩;have:=hcell j u hj;rw[ha,Addr.add_lit]at this;exact this
def Zq3 {α:Type}(P:Program)(fs:List Field)(off:Nat)(r:Rep α):Prop:=∀(H:Type) (enc:TypeId×Value->H) (W:World) (base:Nat) (sp:Nat->Bool) (held:Bool) (n:Nat) (cs:List Value) (xs:List (DataW H×List MemPlace)),
 cs.length=off+r.size->xs.length=fs.length->(∀(i:Nat) (f:Field),fs[i]?=some f->DataW.trod enc P W base sp held n f.type ((cs.drop f.offset).take (P.cellsOf f.type))=xs[i]?)->∃a,r.ok W W.heap.size (cs.drop off) a/\((DataW.weightsEach P (fs.map (·.type)) (xs.map (·.1))).all (·<=reachBytes)=true->r.fit a)/\ZZ66 (r.bulk a) (xs.map (·.1))
theorem Zh4 {α:Type}{r:Rep α}{f:Field}(hf:Zfg P f.type r):Zq3 P [f] f.offset r:=by
 intro H enc W base sp held n cs xs hl hxs h;have h0:=h 0 f rfl;rw[Qb (by rw[hxs];simp)]at h0;obtain ⟨a,ha,hfit,hbk⟩:=hf.2.2 enc W base sp held n _ _ h0;rw[hf.1,List.take_of_length_le (by simp;omega)]at ha;refine ⟨a,ha,λ hw=>hfit ?_,λ ub uba hb=>?_⟩
 case refine_2=>
  cases xs with
  | nil=>simp at hxs
  | cons y ys=>
   have:=hbk ub uba hb;simp only[Qbu,hb.allc];simp only[Qcp]at this;omega
 cases xs with
 | nil=>simp at hxs
 | cons y ys=>
  simp only[Qbu,DataW.weightsEach,Qbn,Qad]at hw;exact hw.1
theorem Zdz {α β:Type}{r:Rep α}{s:Rep β}{f:Field}{fs:List Field}(hf:Zfg P f.type r)(hfs:Zq3 P fs (f.offset+r.size) s):Zq3 P (f::fs) f.offset (r.prod s):=by
 intro H enc W base sp held n cs xs hl hxs h;have hrs:(r.prod s).size=r.size+s.size:=rfl;have h0:=h 0 f rfl;rw[Qb (by rw[hxs];simp)]at h0;obtain ⟨a,ha,hfit,hbk⟩:=hf.2.2 enc W base sp held n _ _ h0;rw[hf.1]at ha;obtain ⟨b,hb,hfit',hbk'⟩:=hfs H enc W base sp held n cs xs.tail (by omega) (by simp[hxs]) (λ i g hg=>by
  have:=h (i+1) g (by simpa using hg)
  rw[this];simp)
 refine ⟨(a,b),⟨_,_,?_,ha,hb⟩,λ hw=>?_,λ ub uba hu=>?_⟩
 case refine_3=>
  cases xs with
  | nil=>simp at hxs
  | cons y ys=>
   have h1:=hbk ub uba hu;have h2:=hbk' ub uba hu;simp only[Qbu,hu.allc];simp only[Qcp,List.tail_cons]at h1 h2
   show r.bulk a+s.bulk b<=_
   omega
 case refine_2=>
  cases xs with
  | nil=>simp at hxs
  | cons y ys=>
   simp only[Qbu,DataW.weightsEach,Qbn,Qad]at hw;exact ⟨hfit hw.1,hfit' hw.2⟩
 rw[show cs.drop (f.offset+r.size)=(cs.drop f.offset).drop r.size by rw[List.drop_drop]];exact (Qag _ _).symm
theorem Zf5 {α:Type}{r:Rep α}{fs:Array Field}(ht:P.underlying t=some (.struct fs))(hc:P.cellsOf t=r.size)(hb:P.bytesOf t=r.bytes)(hfs:Zq3 P fs.toList 0 r):Zfg P t r:=by
 refine ⟨hc,hb,λ enc W base sp held fuel cs x h=>?_⟩;obtain ⟨xs,n,_,rfl,hl,hxs,hf⟩:=DataW.trod_struct ht h;obtain ⟨a,ha,hfit,hbk⟩:=hfs _ enc W base sp held n cs xs (by omega) (by simpa using hxs) (λ i f hi=>hf i f (by simpa using hi));refine ⟨a,by simpa using ha,λ hw=>hfit ?_,λ ub uba hb=>by have:=hbk ub uba hb;rw[hb.agg];omega⟩;simpa[DataW.weights,ht]using hw
theorem Zue {α β:Type}{r:Rep α}{f:β->α}{g:α->β}(hg:∀a,f (g a)=a)(h:Zfg P t r):Zfg P t (r.map f):=by
 refine ⟨h.1,h.2.1,λ enc W base sp held fuel cs x hx=>?_⟩;obtain ⟨a,ha,hf,hb⟩:=h.2.2 enc W base sp held fuel cs x hx;exact ⟨g a,by show r.ok _ _ _ _;rw[hg];exact ha,λ hw=>by show r.fit _;rw[hg];exact hf hw,by show Zlf (r.bulk (f (g a))) _;rw[hg];exact hb⟩
theorem Zuu {α:Type}{r:Rep α}{H:Type}{enc:TypeId×Value->H}{W:World}{base:Nat}{sp:Nat->Bool}{held:Bool}{v:Value}{d:DataW H}{ps:List MemPlace}{cs:Array Value}(ho:Zfg P t r)(hv:v = .agg cs)(h:DataW.Trod enc P W base sp held t v d ps) :
  ∃a,r.atN W W.heap.size v a/\((d.weights P t).all (·<=reachBytes)=true->r.fit a)/\Zlf (r.bulk a) d:=by
 obtain ⟨fuel,hf⟩:=h;subst hv;obtain ⟨a,ha,hfit,hbk⟩:=ho.2.2 enc W base sp held fuel _ _ hf;exact ⟨a,⟨cs.toList,by simp,ha⟩,hfit,hbk⟩
end
end Go.Px
