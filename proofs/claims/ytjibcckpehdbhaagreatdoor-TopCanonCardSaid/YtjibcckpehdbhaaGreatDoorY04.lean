/-
  Texts of this claim: PxGroup, PxKey, PxRange, PxRound, PxRangeM, PxRng, PxMapE, PxBack, PxAll.
-/
import Derived.Test.YtjibcckpehdbhaaGreatDoorY03
import Derived.Test.YtjibcckpehdbhaaGreatDoorY02
import Derived.DeepKeys5
import Derived.RangeFuncFrom
import Derived.OrdersIn
import Derived.WideKeyEntry
set_option linter.unusedVariables false
namespace Go.Px
open Go.RowKit
set_option linter.unusedSectionVars false
theorem St.inAll' {G:Nat->Prop}{W w:World}{L:List Ch}(h:St G W w L)(k:Nat){L':List Ch}(hk:L[k]?=some (Ch.all L')):∃F,St F w w L'/\∀w' L'',St F w w' L''->St G W w' (L.set k (Ch.all L'')):=by
 obtain ⟨F,ho,hF,hs⟩:=h.opn hk;exact ⟨F,St.enter ho,λ w' L'' h'=>hs w' _ h'.chg h'.leave⟩
section
variable {κ α:Type} [DecidableEq κ]
abbrev Ent (κ α:Type):=κ×Option Addr×Nat×List α
def valE (x:Ent κ α):Value := .slice x.2.1 x.2.2.2.length x.2.2.1
def fE (E:List (Ent κ α))(a:κ):Option Value:=(E.find? λ x=>x.1=a).map valE
def vE (E:List (Ent κ α))(a:κ):List α:=((E.find? λ x=>x.1=a).map λ x=>x.2.2.2).getD []
def Zdu (e:TypeId)(size:Nat)(enc:α->List Value)(E:List (Ent κ α)):List Ch:=E.map λ x=>rowC e size x.2.1 x.2.2.2.length x.2.2.1 (x.2.2.2.flatMap enc)
theorem Zju {E:List (Ent κ α)}{a:κ}{x:Ent κ α}(h:E.find? (λ x=>decide (x.1=a))=some x):∃j:Nat,E[j]?=some x/\x.1=a:=by
 obtain ⟨j,hj⟩:=Qo.1 (Qcu h);exact ⟨j,hj,by simpa using List.find?_some h⟩
theorem ZZ33 {E:List (Ent κ α)}(hn:(E.map (·.1)).Nodup){j:Nat}{x:Ent κ α}(h:E[j]?=some x){a:κ}(ha:x.1=a):E.find? (λ x=>decide (x.1=a))=some x:=by
 subst ha
 induction E generalizing j with
 | nil=>simp at h
 | cons y E ih=>
  rw[Qbu,Qcg]at hn
  match j,h with
  | 0,h=>simp at h;subst h;simp
  | j+1,h=>
   have h:E[j]?=some x:=by simpa using h
   have hne:y.1≠x.1:=λ e=>hn.1 (by rw[e];exact Qr.2 ⟨x,Qe h,rfl⟩);rw[Qbs (by simpa using hne)];exact ih hn.2 h
theorem Zze {E:List (Ent κ α)}(hn:(E.map (·.1)).Nodup){j:Nat}{x y:Ent κ α}(h:E[j]?=some x)(hy:y.1=x.1)(b:κ):(E.set j y).find? (λ x=>decide (x.1=b))=if b=x.1 then some y else E.find? (λ x=>decide (x.1=b)):=by
 induction E generalizing j with
 | nil=>simp at h
 | cons z E ih=>
  rw[Qbu,Qcg]at hn
  match j,h with
  | 0,h=>
   simp at h;subst h;rw[Qcy];by_cases hb:b=z.1
   ·subst hb;simp[hy]
   ·rw[if_neg hb,Qbs (by rw[hy];simpa using Ne.symm hb),Qbs (by simpa using Ne.symm hb)]
  | j+1,h=>
   have h:E[j]?=some x:=by simpa using h
   have hne:z.1≠x.1:=λ e=>hn.1 (by rw[e];exact Qr.2 ⟨x,Qe h,rfl⟩);rw[Qa9];by_cases hb:z.1=b
   ·subst hb;rw[List.find?_cons_of_pos (by simp),List.find?_cons_of_pos (by simp),if_neg hne]
   ·rw[Qbs (by simpa using hb),Qbs (by simpa using hb)];exact ih hn.2 h
theorem Zwg {E:List (Ent κ α)}{y:Ent κ α}(h:E.find? (λ x=>decide (x.1=y.1))=none)(b:κ):(E++[y]).find? (λ x=>decide (x.1=b))=if b=y.1 then some y else E.find? (λ x=>decide (x.1=b)):=by
 rw[List.find?_append];by_cases hb:b=y.1
 ·subst hb;rw[h,if_pos rfl];simp
 ·rw[if_neg hb,Qbs (by simpa using Ne.symm hb)];simp
section
variable {G:Nat->Prop} {W w:World} {L:List Ch} {P:Program} {X:Pan} {K:Value->World->Prop}
theorem St.grpAppend (s:St G W w L)(kr:Nat){e:TypeId}{size:Nat}{enc:α->List Value}{E:List (Ent κ α)}(hkr:L[kr]?=some (Ch.all (Zdu e size enc E)))(hn:(E.map (·.1)).Nodup)(hsz':∀x,(enc x).length=size)(hone:∀x,∀u∈enc x,u.oneCell'=true)
  {t ty:TypeId} {z:Value} {bytes:Nat} (ht:P.underlying t=some (.slice e)) (hi:(P.info? e).map (λ i=>(i.zero,i.size,i.bytes))=some (some z,size,bytes)) (hzs:z.cells.size=size) (hsz:0<size) (a:κ) (y:α) {ad:Addr} {c1:Nat} (hnews:∀j u,(enc y)[j]?=some u->w.cell? (ad.add j)=some u)
  (h63:(vE E a).length+1<=maxLen) (hbytes:((vE E a).length+1)*bytes<=Zaf)
  (hK:∀(E':List (Ent κ α)) v' w',(E'.map (·.1)).Nodup->fE E' a=some v'->(∀c,c≠a->fE E' c=fE E c)->vE E' a=vE E a++[y]->(∀c,c≠a->vE E' c=vE E c)->(∀c,c∈E'.map (·.1)↔c=a\/c∈E.map (·.1))->E'.length<=E.length+1->St G W w' (L.set kr (Ch.all (Zdu e size enc E')))->K v' w') :
  RES X ((Builtin.append_ #[t,t] ty #[(fE E a).getD (.slice none 0 0),.slice (some ad) 1 c1]).run P w) K:=by
 have hkl:=(Qa.1 hkr).1
 cases hf:E.find? (λ x=>decide (x.1=a)) with
 | some x=>
  obtain ⟨j,hj,hxa⟩:=Zju hf;obtain ⟨F,s1,hback⟩:=s.inAll' kr hkr;have e1:fE E a=some (valE x):=by unfold fE;rw[hf];rfl
  have e2:vE E a=x.2.2.2:=by unfold vE;rw[hf];rfl
  rw[e1];rw[e2]at h63 hbytes hK;have hk1:(Zdu e size enc E)[j]?=some (rowC e size x.2.1 x.2.2.2.length x.2.2.1 (x.2.2.2.flatMap enc)):=by unfold Zdu;rw[Qh,hj];rfl
  refine s1.appendN j hk1 ht hi hzs hsz (m:=1) (by rw[hsz' y,Qcr]) hnews (hone y) h63 hbytes λ a' cap w' s2 hg=>?_;obtain ⟨g,rfl⟩:=hg (by omega);have hfs:=Zze (y:=(a,some ⟨g,0,none⟩,cap,x.2.2.2++[y])) hn hj hxa.symm;have hjl:=(Qa.1 hj).1;have hkeys:(E.set j (a,some ⟨g,0,none⟩,cap,x.2.2.2++[y])).map (·.1)=E.map (·.1):=by
   rw[Qap]
   show (E.map (·.1)).set j a=E.map (·.1)
   have h9:j<(E.map (·.1)).length:=by simpa using hjl
   have:=Qai h9;rw[Q8,(Qa.1 hj).2,hxa]at this;exact this
  refine hK (E.set j (a,some ⟨g,0,none⟩,cap,x.2.2.2++[y])) _ w' (by rw[hkeys];exact hn) ?_ (λ c hc=>?_) ?_ (λ c hc=>?_) (λ c=>?_) (by rw[Qau];omega) ?_
  ·unfold fE;rw[hfs,if_pos hxa.symm];simp[valE]
  ·unfold fE;rw[hfs,if_neg (by rw[hxa];exact hc)]
  ·unfold vE;rw[hfs,if_pos hxa.symm];rfl
  ·unfold vE;rw[hfs,if_neg (by rw[hxa];exact hc)]
  ·rw[hkeys];exact ⟨Or.inr,λ h=>h.elim (λ e=>by rw[e,<-hxa];exact Qr.2 ⟨x,Qe hj,rfl⟩) id⟩
  ·have:=hback w' _ s2;unfold Zdu at this |-;rw[Qap];simpa using this
 | none=>
  have e1:fE E a=none:=by unfold fE;rw[hf];rfl
  have e2:vE E a=[]:=by unfold vE;rw[hf];rfl
  rw[e1];rw[e2]at h63 hbytes hK;have s1:=s.nilRow e size;refine s1.appendN L.length (by rw[Qi (Ql _),Qam];rfl) ht hi hzs hsz (m:=1) (by rw[hsz' y,Qcr]) hnews (hone y) h63 hbytes λ a' cap w' s2 hg=>?_;obtain ⟨g,rfl⟩:=hg (by omega);rw[Qac _ _ (Ql _),Qam,Qcy,Qcz]at s2;have hfs:=Zwg (E:=E) (y:=(a,some ⟨g,0,none⟩,cap,[y])) hf;refine hK (E++[(a,some ⟨g,0,none⟩,cap,[y])]) _ w' ?_ ?_ (λ c hc=>?_) ?_ (λ c hc=>?_) (λ c=>?_) (by simp) ?_
  ·rw[Qu,Qak];refine ⟨hn,by simp,λ b hb c hc=>?_⟩;simp at hc;subst hc;rintro rfl;obtain ⟨x,hx,hxa⟩:=Qr.1 hb;have:=Qdh.1 hf x hx;simp[hxa]at this
  ·unfold fE;rw[hfs,if_pos rfl];rfl
  ·unfold fE;rw[hfs,if_neg hc]
  ·unfold vE;rw[hfs,if_pos rfl];rfl
  ·unfold vE;rw[hfs,if_neg hc]
  ·simp[or_comm]
  ·obtain ⟨hc2,T,hT,hk2⟩:=s2;have hg:=hk2 kr _ (by rw[Qf hkl];exact hkr);obtain ⟨T',hT',hk'⟩:=hg;refine ⟨hc2,λ i=>if T i=L.length+1 then kr+1 else T i,λ i hi=>?_,λ k c hk=>?_⟩
   ·by_cases e:T i=L.length+1
    ·exact hT i (by omega)
    ·dsimp only at hi;rw[if_neg e]at hi;exact hT i hi
   ·rw[Qaq]at hk;by_cases e:kr=k
    ·subst e;rw[if_pos rfl,if_pos hkl]at hk;injection hk with hk;subst hk;refine ⟨λ i=>if T i=L.length+1 then E.length+1 else if T i=kr+1 then T' i else 0,λ i hi=>?_,λ j d hj=>?_⟩
     ·by_cases e1:T i=L.length+1
      ·exact ⟨by dsimp only;rw[if_pos e1],(hT i (by omega)).2⟩
      ·dsimp only at hi;rw[if_neg e1]at hi;by_cases e2:T i=kr+1
       ·rw[if_pos e2]at hi;exact ⟨by dsimp only;rw[if_neg e1];exact e2,(hT' i hi).2⟩
       ·rw[if_neg e2]at hi;exact absurd rfl hi
     ·unfold Zdu at hj;rw[Qu]at hj;by_cases hjl:j<E.length
      ·rw[Qf (by simpa using hjl)]at hj;refine d.keep (X:=noB) (hk' j d hj) (Chg.refl _ _) (λ _ _ _=>id) λ i _ e3=>?_;have h3:=(hT' i (by omega)).1
       show (if T i=L.length+1 then E.length+1 else if T i=kr+1 then T' i else 0)=j+1
       rw[if_neg (by omega),if_pos h3];exact e3
      ·rw[Qi (by simpa using hjl),Qp]at hj;have hj0:j=E.length:=by
        have:=(Qa.1 hj).1;simp at this;omega
       subst hj0;simp at hj;subst hj;have hnew:=hk2 L.length _ (by rw[Qi (Ql _),Qam];rfl);refine Ch.keep _ (X:=noB) (by simpa using hnew) (Chg.refl _ _) (λ _ _ _=>id) λ i _ e3=>?_
       show (if T i=L.length+1 then E.length+1 else if T i=kr+1 then T' i else 0)=E.length+1
       rw[if_pos e3]
    ·rw[if_neg e]at hk;have hkL:k<L.length:=(Qa.1 hk).1;refine c.keep (X:=noB) (hk2 k c (by rw[Qf hkL];exact hk)) (Chg.refl _ _) (λ _ _ _=>id) λ i _ e3=>?_;have e3':T i=k+1:=e3;dsimp only;rw[if_neg (by omega)];exact e3
end
end
theorem Zqg {a b:Nat}(ha:a<65536)(hb:b<65536)(h:bytesBE 8 a=bytesBE 8 b):a=b:=by
 unfold bytesBE at h;have h:=List.reverse_inj.1 h;simp only[bytesLE]at h;injection h with h1 h;injection h with h2 h;have e1:=congrArg UInt8.toNat h1;have e2:=congrArg UInt8.toNat h2;simp at e1 e2;omega
theorem Zkj (w n:Nat):(bytesBE w n).length=w:=by
 unfold bytesBE;rw[List.length_reverse]
 induction w generalizing n with
 | zero=>rfl
 | succ w ih=>simp[bytesLE,ih]
theorem Zmc {a:Nat}(ha:a<65536):Lit.keyBytes (.int .i64 a)=bytesBE 8 a:=by
 have:(((a:Int) % 2 ^ IntKind.i64.bits)).toNat=a:=by
  have:IntKind.i64.bits=64:=rfl;rw[this];omega
 show bytesBE (IntKind.i64.bits / 8) ((a:Int) % 2 ^ IntKind.i64.bits).toNat=_
 rw[this];rfl
def kTr:KeyT (UInt16×UInt16) where
 val x := .agg #[.int .i64 (x.1.toNat:Int),.int .i64 (x.2.toNat:Int)]
 lit x := .string (keyBytes [.int .i64 (x.1.toNat:Int),.int .i64 (x.2.toNat:Int)])
 good _:=True
 inj:=by
  rintro ⟨a,b⟩ ⟨c,d⟩ h
  have ha:=UInt16.toNat_lt a
  have hb:=UInt16.toNat_lt b
  have hc:=UInt16.toNat_lt c
  have hd:=UInt16.toNat_lt d
  simp only[keyBytes,Qan,List.flatMap_nil,Qas,Zmc ha,Zmc hb,Zmc hc,Zmc hd]at h
  injection h with h
  have:=List.append_inj h (by rw[Zkj,Zkj])
  exact Prod.ext (UInt16.toNat_inj.1 (Zqg ha hc this.1)) (UInt16.toNat_inj.1 (Zqg hb hd this.2))
 isLit _:=trivial
def tr (q s:Nat):UInt16×UInt16:=(UInt16.ofNat q,UInt16.ofNat s)
theorem Ziz {q s:Nat}(hq:q<65536)(hs:s<65536):kTr.val (tr q s) = .agg #[.int .i64 q,.int .i64 s]:=by
 unfold kTr tr;simp only;rw[UInt16.toNat_ofNat_of_lt' (by simpa using hq),UInt16.toNat_ofNat_of_lt' (by simpa using hs)]
theorem ZZ188 {q s q' s':Nat}(hq:q<65536)(hs:s<65536)(hq':q'<65536)(hs':s'<65536):tr q s=tr q' s'↔q=q'/\s=s':=by
 constructor
 ·intro h;unfold tr at h;injection h with h1 h2;have e1:=congrArg UInt16.toNat h1;have e2:=congrArg UInt16.toNat h2;rw[UInt16.toNat_ofNat_of_lt' (by simpa using hq),UInt16.toNat_ofNat_of_lt' (by simpa using hq')]at e1;rw[UInt16.toNat_ofNat_of_lt' (by simpa using hs),UInt16.toNat_ofNat_of_lt' (by simpa using hs')]at e2;exact ⟨e1,e2⟩
 ·rintro ⟨rfl,rfl⟩;rfl
theorem Zu1 (x:UInt16×UInt16):∃q s:Nat,q<65536/\s<65536/\x=tr q s:=⟨x.1.toNat,x.2.toNat,UInt16.toNat_lt _,UInt16.toNat_lt _,by unfold tr;simp⟩
theorem Zdk {F:Nat->Prop}{W:World}{l:Nat}(o:Obj)(hF:F l):Chg F W (W.putObj l o):=Zuy (grownBy_putObj' W l o) λ k e=>by cases e;exact hF
def Zis (o:Oper):Bool:=match o.op with | .defer _=>false | _=>true
theorem Zi3 {o:Oper}(h:Zis o=true):∀c,o.op ≠ .defer c:=by
 intro c hc;unfold Zis at h;rw[hc]at h;cases h
def Zfn:Code->Bool
 | .region _ ops _=>ops.toList.all Zis
 | .seq a b=>Zfn a && Zfn b
 | .cond _ x y=>Zfn x && Zfn y
 | .block _ b=>Zfn b
 | .loop b=>Zfn b
 | .scope _=>false
 | .rangeFunc ..=>false
 | _=>true
def rngB:Code->Code | .rangeFunc _ _ _ b=>b | c=>c
def rngA:Code->Code | .rangeFunc _ _ a _=>a | c=>c
section
variable {P:Program} {l:Nat} {ops:Array Oper} {Q:Exit->Act->World->Prop}
theorem Zi7 {o:Oper}(hnd:∀c,o.op ≠ .defer c){a:Act}{w:World}{K:Act->World->Prop}(h:o.wpIn Fence.wide 0 P a w K Q):o.wpIn (Fence.wide.inRound l) 0 P a w K Q:=by
 refine ⟨h.1,?_⟩;have h2:=h.2;rw[Oper.semAt_eq _ _ _ hnd]at h2 |-;exact h2
theorem Ze7:∀(os:List Oper) (a:Act) (w:World),(∀o∈os,Zis o=true)->wpListIn Fence.wide 0 P ops Q os a w->wpListIn (Fence.wide.inRound l) 0 P ops Q os a w
 | [],_,_,_,h=>h
 | o::os,a,w,hn,h=>by
  unfold wpListIn at h |-
  split at h
  ·rename_i hw
   rw[if_pos hw]
   exact Zi7 (Zi3 (hn o (by simp))) (Oper.wpIn_mono (λ a w h=>Ze7 os a w (λ o ho=>hn o (by simp[ho])) h) h)
  ·rename_i hw
   rw[if_neg hw]
   exact ⟨h.1,Ze7 os _ w (λ o ho=>hn o (by simp[ho])) h.2⟩
theorem Zeu (hQ:¬LetsOut Q)(hn:∀o∈ops.toList,Zis o=true):∀(n:Nat) (L:Array Bool) (a:Act) (w:World),wpAny P .any ops Q n L a w->wpAnyIn (Fence.wide.inRound l) 0 P .any ops Q n L a w
 | 0,_,_,_,h=>h
 | n+1,L,a,w,h=>by
  refine ⟨h.1,λ i hi=>?_⟩
  have h2:=h.2 i hi
  unfold wpOp at h2
  unfold wpOpIn
  cases ho:ops[i]? with
  | none=>rw[ho]at h2;exact Zeu hQ hn n _ a w h2
  | some o=>
   rw[ho]at h2
   simp only at h2 |-
   have hno:=Zi3 (hn o (Qe (by rw[Qbj];exact ho)))
   split at h2
   ·rename_i hw
    rw[if_pos hw]
    rcases h2 with h2|h2
    ·refine Zi7 hno (Oper.wpIn_mono (λ a w h=>Zeu hQ hn n _ a w h) ⟨λ f _=>trivial,?_⟩)
     rw[show Fence.wide.round=none from rfl,Oper.semAt_none]
     exact Ze5 h2
    ·exact absurd h2.2 hQ
   ·rename_i hw
    rw[if_neg hw]
    exact ⟨λ f _=>trivial,Zeu hQ hn n _ _ w h2⟩
theorem Zfh {X:Pan}{N:Nat}(hm:P.follows .mixedOrders=true):∀(c:Code) (Q:Exit->Env->World->Prop) (ρ:Env) (a:Act) (w:World),(∀ρ w,¬Q .outgrown ρ w)->codeOk N c=true->Zfn c=true->Rel N a ρ->Zbp P X c Q ρ w ->
  c.wpIn (Fence.wide.inRound l) 0 P (post X N Q) a w:=by
 intro c
 induction c with
 | skip=>intro Q ρ a w _ _ _ hr h;exact wpIn_skip ⟨ρ,hr,h⟩
 | label l=>intro Q ρ a w _ _ _ hr h;exact wpIn_label ⟨ρ,hr,h⟩
 | exit id=>intro Q ρ a w _ _ _ hr h;exact wpIn_exit ⟨ρ,hr,h⟩
 | ret=>intro Q ρ a w _ _ _ hr h;exact wpIn_ret ⟨ρ,hr,h⟩
 | goto l=>intro Q ρ a w _ _ _ hr h;exact wpIn_goto ⟨ρ,hr,h⟩
 | region id ops d=>
  intro Q ρ a w hno hok hokR hr h;have hnd:∀o∈ops.toList,Zis o=true:=λ o ho=>Qar.1 hokR o ho
  cases d with
  | false=>
   refine wpIn_region_list (Ze7 _ _ _ hnd ?_);exact Zll (Q:=post X N Q) (λ _ _ _ hd hx=>⟨hd,hx⟩) hok (λ a ρ w hr hk=>⟨ρ,hr,hk⟩) _ _ _ _ _ (λ o ho=>Qar.1 hok o ho) hr h
  | true=>
   refine wpIn_region_any hm (Zeu ?_ hnd _ _ _ _ (Zii _ _ [] _ _ ?_))
   ·rintro ⟨a,w,ρ,_,h⟩;exact hno ρ w h
   ·exact Zj3 (Q:=post X N Q) (λ _ _ _ hd hx=>⟨hd,hx⟩) (λ _ _ _ _ hd hx=>⟨hd.trans hx.1,hx.2⟩) hok (λ a ρ w hr hk=>⟨ρ,hr,hk⟩) _ _ _ _ _ _ (Zko _) (λ γ hγ=>by cases hγ) hr h
 | seq x y ihx ihy=>
  intro Q ρ a w hno hok hokR hr h;simp only[codeOk,Zfn,Qad]at hok hokR;refine wpIn_seq (wpIn_mono (ihx (Zpw (Zbp P X y Q) Q) _ _ _ (λ ρ w h=>hno ρ w h) hok.1 hokR.1 hr h) λ e a' w' hq=>?_)
  cases e with
  | normal=>obtain ⟨ρ',hr',hq'⟩:=hq;exact ihy _ _ _ _ hno hok.2 hokR.2 hr' hq'
  | panic ch=>exact hq
  | _=>exact hq
 | cond c x y ihx ihy=>
  intro Q ρ a w hno hok hokR hr h;simp only[codeOk,Zfn,Qad]at hok hokR;obtain ⟨b,hb,hq⟩:=Zd5 h;refine wpIn_cond (t:=b) (by rw[hr.eval];exact hb) ?_
  cases b with
  | true=>exact ihx _ _ _ _ hno hok.1 hokR.1 hr hq
  | false=>exact ihy _ _ _ _ hno hok.2 hokR.2 hr hq
 | block id b ih=>
  intro Q ρ a w hno hok hokR hr h;refine wpIn_block (wpIn_mono (ih (Zlr id Q) _ _ _ (λ ρ w h=>hno ρ w h) hok hokR hr h) λ e a' w' hq=>?_)
  cases e with
  | exit k=>
   obtain ⟨ρ',hr',hq'⟩:=hq;simp only[Zlr]at hq';simp only[Exit.inBlock];by_cases hk:k=id
   ·subst hk;rw[if_pos rfl];have:Nat.beq k k=true:=by simp
    rw[this]at hq';exact ⟨ρ',hr',hq'⟩
   ·rw[if_neg hk];have:Nat.beq k id=false:=by
     cases hh:Nat.beq k id with
     | false=>rfl
     | true=>exact absurd (Qa1 hh) hk
    rw[this]at hq';exact ⟨ρ',hr',hq'⟩
  | panic ch=>exact hq
  | _=>exact hq
 | loop b ih=>
  intro Q ρ a w hno hok hokR hr h;obtain ⟨I,μ,h0,hround⟩:=h;refine wpIn_loop (λ a' w'=>∃ρ',Rel N a' ρ'/\I ρ' w') (λ a' w'=>μ (λ n=>a'.tmps.getD n undef) w') ⟨ρ,hr,h0⟩ ?_;rintro a' w' ⟨ρ',hr',hI⟩;have hρ:∀{a:Act} {ρ:Env},Rel N a ρ->(λ n=>a.tmps.getD n undef)=ρ:=λ h=>funext h.get;refine wpIn_mono (ih (Zpw (λ ρ'' w''=>I ρ'' w''/\μ ρ'' w''<μ ρ' w') Q) _ _ _ (λ ρ w h=>hno ρ w h) hok hokR hr' (hround ρ' w' hI)) λ e a'' w'' hq=>?_
  cases e with
  | normal=>
   obtain ⟨ρ'',hr'',hI'',hlt⟩:=hq;exact ⟨⟨ρ'',hr'',hI''⟩,by rw[hρ hr'',hρ hr'];exact hlt⟩
  | panic ch=>exact hq
  | _=>exact hq
 | scope body ih=>intro Q ρ a w hno hok hokR hr h;cases hokR
 | _=>intro Q ρ a w hno hok hokR hr h;exact h.elim
end
def SeqM {α:Type}(P:Program)(gf:Nat)(lb:Array Value)(encs:α->Array Value)(M:Nat->Prop)(kb:Nat)(S Sp Ok:List α->Prop)(w0:World):Prop :=
 ∀(l:Nat) (J Jx:List α->World->Prop) (W:World),Chg (λ _=>False) w0 W ->
  (∀s A A',W.heap.size<=A.heap.size->J s A->Chg (λ i=>W.heap.size<=i/\i<W.heap.size+kb) A A'->J s A') ->
  (∀s A A',W.heap.size<=A.heap.size->Jx s A->Chg (λ i=>W.heap.size<=i/\i<W.heap.size+kb) A A'->Jx s A') ->
  (∀pre x W1,W.heap.size+kb<=W1.heap.size->J pre W1->Ok (pre++[x])->YieldAt Fence.wide 0 P l (encs x) W1 λ e W'=>
   (e = .returned (.bool true)/\J (pre++[x]) W'/\Chg (λ i=>M i/\¬(W.heap.size<=i/\i<W.heap.size+kb)) W1 W')\/(e = .returned (.bool false)/\Jx (pre++[x]) W'/\Chg (λ i=>M i/\¬(W.heap.size<=i/\i<W.heap.size+kb)) W1 W')) ->
  J [] W ->
  Calls P gf (#[.func (.yield l) #[] #[]]++lb) W λ e W'=>(∃v,e = .returned v)/\W.heap.size<=W'.heap.size/\((∃xs,S xs/\J xs W')\/(∃pre,Sp pre/\Jx pre W'))
def postM {α:Type}(M:Nat->Prop)(kb n:Nat)(I:List α->World->Prop)(Ix:Code->List α->World->Prop)(xs:List α)(W:World):Exit->Act->World->Prop
 | .normal,_,W'=>Chg (λ i=>M i/\¬(n<=i/\i<n+2+kb)) W W'/\I xs W'
 | .ret,_,W'=>Chg (λ i=>M i/\¬(n<=i/\i<n+2+kb)) W W'/\Ix .ret xs W'
 | .exit id,_,W'=>Chg (λ i=>M i/\¬(n<=i/\i<n+2+kb)) W W'/\Ix (.exit id) xs W'
 | .goto t,_,W'=>Chg (λ i=>M i/\¬(n<=i/\i<n+2+kb)) W W'/\Ix (.goto t) xs W'
 | .panic _,_,_=>False
 | .outgrown,_,_=>False
theorem ZZ121 {α:Type}{P:Program}{g:Operand}{ps:Array Tmp}{assign body:Code}{Q:Exit->Act->World->Prop}{a:Act}{w:World}
  {gf:Nat} {lb:Array Value} (hg:a.eval g = .func (.func gf) #[] lb) (eg:∀args w,(callFunc gf args).run P w = .ok (.enter gf args) w)
  {encs:α->Array Value} {M:Nat->Prop} {kb:Nat} {S Sp Ok:List α->Prop} (hseq:SeqM P gf lb encs M kb S Sp Ok w) (hM:∀i,w.heap.size<=i->M i) (hps:∀x,(encs x).size=ps.size)
  (I:List α->World->Prop) (Ix:Code->List α->World->Prop) (hI:∀s A A',w.heap.size<=A.heap.size->I s A->Chg (λ i=>w.heap.size<=i/\i<w.heap.size+2+kb) A A'->I s A')
  (hIx:∀c s A A',w.heap.size<=A.heap.size->Ix c s A->Chg (λ i=>w.heap.size<=i/\i<w.heap.size+2+kb) A A'->Ix c s A') (h0:I [] w) (A:List α->α->Act->World->Prop) (hA:∀pre x a s s',w.heap.size<=s.heap.size->A pre x a s->Chg (λ i=>w.heap.size<=i/\i<w.heap.size+2+kb) s s'->A pre x a s')
  (hassign:∀(l:Nat) (pre:List α) (x:α) (W:World) (K:Act->World->Prop),w.heap.size+2+kb<=W.heap.size->I pre W->Ok (pre++[x])->(∀a₁ W₁,Chg (λ i=>M i/\¬(w.heap.size<=i/\i<w.heap.size+2+kb)) W W₁->A pre x a₁ W₁->K a₁ W₁) ->
   assign.wpIn (Fence.wide.inRound l) 0 P (Exit.then K (λ _ _ _=>False)) {tmps:=(ps.zip (encs x)).foldl (λ t (p,v)=>t.setIfInBounds p v) a.tmps,defers:=[] } W)
  (hbody:∀(l:Nat) (pre:List α) (x:α) (a₁:Act) (W:World),w.heap.size+2+kb<=W.heap.size->A pre x a₁ W->Ok (pre++[x])->body.wpIn (Fence.wide.inRound l) 0 P (postM M kb w.heap.size I Ix (pre++[x]) W) a₁ W)
  (hdone:∀(D:Nat) (xs:List α) (W:World),D=w.heap.size->w.heap.size<=W.heap.size->S xs->I xs W->W.heap[D]?=some (.deferred (some []))->Q .normal {a with defers:={target := .collected D,args:=#[] }::a.defers } W)
  (hstop:∀(D:Nat) (c:Code) (pre:List α) (W:World),D=w.heap.size->w.heap.size<=W.heap.size->Sp pre->Ix c pre W->W.heap[D]?=some (.deferred (some []))->c.wp P Q {a with defers:={target := .collected D,args:=#[] }::a.defers } W) :
  (Code.rangeFunc g ps assign body).wp P Q a w:=by
 refine wpIn_wide (n:=0).1 (wpIn_rangeFunc ?_);intro fn hfn;obtain ⟨rec,hrec⟩:∃rec:LoopState->Option Code->Loop,rec=λ st pe=>{state:=st,pending:=pe,fn,tmps:=a.tmps,params:=ps,assign,body,defers:=w.heap.size }:=⟨_,rfl⟩;obtain ⟨W1,hW1⟩:∃W1,(w.alloc (.deferred (some []))).alloc (.loop (rec .ready none))=W1:=⟨_,rfl⟩;have hL1:W1.heap[w.heap.size+1]?=some (.loop (rec .ready none)):=by
  rw[<-hW1];have:=World.alloc_heap_new (w.alloc (.deferred (some []))) (.loop (rec .ready none));rwa [World.size_alloc]at this
 have hK1:W1.heap[w.heap.size]?=some (.deferred (some [])):=by
  rw[<-hW1];exact (Below.heap_alloc _ _ _ (by simp)).trans (World.alloc_heap_new w _)
 have hc1:Chg (λ _=>False) w W1:=by rw[<-hW1];exact ((Chg.refl _ _).alloc _).alloc _
 have hI1:I [] W1:=hI _ _ _ (Ql _) h0 (hc1.mono λ _ _ h=>h.elim);have hs1:W1.heap.size=w.heap.size+2:=by rw[<-hW1];simp
 refine ⟨w.heap.size+1,[{target := .collected w.heap.size,args:=#[] }],W1,{target := .fn (.func gf) lb,args:=#[.func (.yield (w.heap.size+1)) #[] #[]] },W1,gf,
  #[.func (.yield (w.heap.size+1)) #[] #[]]++lb,W1,?_,?_,?_,?_,λ h=>by simp[Fence.wide]at h,?_⟩
 ·rw[<-hW1,hrec];exact run_enterLoop_outer _ _ _ _ _
 ·simp only[resolve,hg];simp[go_sem]
 ·intro f' hf';exact trivial
 ·simp[invoke,go_sem,eg]
 ·have keep:∀{A A':World} {i:Nat} {o:Obj},Chg (λ i=>W1.heap.size<=i/\i<W1.heap.size+kb) A A'->i<W1.heap.size->A.heap[i]?=some o->A'.heap[i]?=some o:=λ hc hi ho=>
   (hc.block _ (Qw.1 ho).1 (by omega)).trans ho
  refine callsIn_wide.2 ((hseq (w.heap.size+1)
   (λ pre W=>I pre W/\W.heap[w.heap.size+1]?=some (.loop (rec .ready none))/\W.heap[w.heap.size]?=some (.deferred (some [])))
   (λ pre W=>∃c,Ix c pre W/\W.heap[w.heap.size+1]?=some (.loop (rec .done (some c)))/\W.heap[w.heap.size]?=some (.deferred (some [])))
   W1 hc1
   (λ s A A' hA hs hc=>⟨hI s A A' (by omega) hs.1 (hc.mono λ i _ h=>by omega),keep hc (by omega) hs.2.1,keep hc (by omega) hs.2.2⟩)
   (λ s A A' hA hs hc=>by
    obtain ⟨c,h1,hl,hk⟩:=hs
    exact ⟨c,hIx c s A A' (by omega) h1 (hc.mono λ i _ h=>by omega),keep hc (by omega) hl,keep hc (by omega) hk⟩)
   ?_ ⟨hI1,hL1,hK1⟩).mono ?_)
  ·rintro pre x W hsW ⟨hi,hl,hk⟩ hlen;have hlt:w.heap.size+1<W.heap.size:=(Qw.1 hl).1;have hy:=run_yield (P:=P) (args:=encs x) hl (by rw[hrec];exact hps x);rw[hrec]at hy;refine ⟨fn,_,assign,body,hy,roundIn_of_wpIn hfn (hassign _ pre x W _ (by omega) hi hlen λ a₁ W' hcA hA1=>?_)⟩;have hl':W'.heap[w.heap.size+1]?=some (.loop (rec .ready none)):=(hcA.block _ (by omega) (by omega)).trans hl;have hk':W'.heap[w.heap.size]?=some (.deferred (some [])):=(hcA.block _ (by omega) (by omega)).trans hk;have hcA':Chg (λ i=>M i/\¬(W1.heap.size<=i/\i<W1.heap.size+kb)) W W':=hcA.mono λ i _ h=>⟨h.1,by omega⟩;have hsW':=hcA.size;refine ⟨_,run_beginRound hl' (by rw[hrec]),?_⟩;clear hi hl hk;replace hl:=hl';replace hk:=hk';have hlt:w.heap.size+1<W'.heap.size:=by omega
   have hl2:(W'.putObj (w.heap.size+1) (.loop {rec .ready none with state := .busy })).heap[w.heap.size+1]?=some (.loop {rec .ready none with state := .busy }):=World.putObj_heap_same hlt;have hk2:(W'.putObj (w.heap.size+1) (.loop {rec .ready none with state := .busy })).heap[w.heap.size]?=some (.deferred (some [])):=(World.putObj_heap_other (by omega)).trans hk;have hw2:Chg (λ i=>M i/\¬(W1.heap.size<=i/\i<W1.heap.size+kb)) W (W'.putObj (w.heap.size+1) (.loop {rec .ready none with state := .busy })):=hcA'.trans (Zdk _ ⟨hM _ (by omega),by omega⟩);have hw2s:=hw2.size;refine wpIn_mono (hbody _ pre x a₁ _ (by simp;omega) (hA _ _ _ _ _ (by omega) hA1 (Zdk _ (by omega))) hlen) ?_;have fin:∀(jump:Option Code) (W3:World),Chg (λ i=>M i/\¬(w.heap.size<=i/\i<w.heap.size+2+kb)) (W'.putObj (w.heap.size+1) (.loop {rec .ready none with state := .busy })) W3 ->
     (Instr.endRound (w.heap.size+1) jump).run P W3 = .ok (.bool jump.isNone) (W3.putObj (w.heap.size+1) (.loop (rec (if jump.isNone then .ready else .done) jump))) /\
     W3.heap[w.heap.size+1]?=some (.loop {rec .ready none with state := .busy }) /\
     (W3.putObj (w.heap.size+1) (.loop (rec (if jump.isNone then .ready else .done) jump))).heap[w.heap.size+1]?=some (.loop (rec (if jump.isNone then .ready else .done) jump)) /\
     (W3.putObj (w.heap.size+1) (.loop (rec (if jump.isNone then .ready else .done) jump))).heap[w.heap.size]?=some (.deferred (some [])) /\
     Chg (λ i=>M i/\¬(W1.heap.size<=i/\i<W1.heap.size+kb)) W (W3.putObj (w.heap.size+1) (.loop (rec (if jump.isNone then .ready else .done) jump)))/\w.heap.size<=W3.heap.size:=λ jump W3 hk3=>by
    have hl3:=(hk3.block _ (by omega) (by omega)).trans hl2;have hkk:=(hk3.block _ (by omega) (by omega)).trans hk2;have:=run_endRound (P:=P) jump hl3;rw[hrec]at this |-;exact ⟨this,by rw[hrec]at hl3;exact hl3,World.putObj_heap_same (Qw.1 hl3).1,(World.putObj_heap_other (by omega)).trans hkk,(hw2.trans' hk3 (λ i _ h=>⟨h.1,by omega⟩)).trans (Zdk _ ⟨hM _ (by omega),by omega⟩),by have:=hk3.size;omega⟩
   rintro e a3 W3 hp
   cases e with
   | normal=>
    obtain ⟨hk3,hi3⟩:=hp;obtain ⟨hr,hl3,hl4,hk4,hc4,hs3⟩:=fin none W3 hk3;exact ⟨_,_,hr,.inl ⟨rfl,⟨hI _ _ _ hs3 hi3 (Zdk _ (by omega)),hl4,hk4⟩,hc4⟩⟩
   | ret=>
    obtain ⟨hk3,hi3⟩:=hp;obtain ⟨hr,hl3,hl4,hk4,hc4,hs3⟩:=fin (some .ret) W3 hk3;exact ⟨_,_,hr,.inr ⟨rfl,⟨.ret,hIx _ _ _ _ hs3 hi3 (Zdk _ (by omega)),hl4,hk4⟩,hc4⟩⟩
   | exit id=>
    obtain ⟨hk3,hi3⟩:=hp;obtain ⟨hr,hl3,hl4,hk4,hc4,hs3⟩:=fin (some (.exit id)) W3 hk3;exact ⟨_,_,hr,.inr ⟨rfl,⟨.exit id,hIx _ _ _ _ hs3 hi3 (Zdk _ (by omega)),hl4,hk4⟩,hc4⟩⟩
   | goto t=>
    obtain ⟨hk3,hi3⟩:=hp;obtain ⟨hr,hl3,hl4,hk4,hc4,hs3⟩:=fin (some (.goto t)) W3 hk3;exact ⟨_,_,hr,.inr ⟨rfl,⟨.goto t,hIx _ _ _ _ hs3 hi3 (Zdk _ (by omega)),hl4,hk4⟩,hc4⟩⟩
   | panic ch=>exact hp.elim
   | outgrown=>exact hp.elim
  ·rintro e W2 ⟨⟨v,rfl⟩,hs2,(⟨xs,hS,hi,hl,hk⟩|⟨pre,hSp,c,hi,hl,hk⟩)⟩
   ·exact ⟨none,_,by have:=run_endLoop (P:=P) hl (by rw[hrec];simp);rw[hrec]at this;exact this,hdone _ xs _ rfl (by simp;omega) hS (hI _ _ _ (by omega) hi (Zdk _ (by omega))) ((World.putObj_heap_other (by omega)).trans hk)⟩
   ·exact ⟨some c,_,by have:=run_endLoop (P:=P) hl (by rw[hrec];simp);rw[hrec]at this;exact this,wpIn_wide.2 (hstop _ c pre _ rfl (by simp;omega) hSp (hIx c _ _ _ (by omega) hi (Zdk _ (by omega))) ((World.putObj_heap_other (by omega)).trans hk))⟩
def Zpq (D:Nat):Ch where
 ok w F:=F D/\w.heap[D]?=some (.deferred (some []))
 keep h hc hX hF:=by
  have hb:=(Qw.1 h.2).1
  exact ⟨hF _ hb h.1,(hc.block D hb (hX D hb h.1)).trans h.2⟩
def RS (S:Array Value->World->Prop):Ending->World->Prop
 | .returned (.tuple vs),w=>S vs w
 | _,_=>False
theorem Zed {P:Program}{N:Nat}{D:List Deferred}{c:Code}{a:Act}{w:World}{S:Array Value->World->Prop}{T U:Env->Array Value}{Q:Exit->Act->World->Prop}
  (h:c.wp P (post (pan (RS S)) N (QX (λ ρ w=>RS S (.returned (.tuple (T ρ))) w) (λ ρ w=>RS S (.returned (.agg (U ρ))) w) []) D) a w)
  (hk:∀a' ρ' w',Rel N a' ρ' D->S (T ρ') w'->Q .normal a' w'):c.wp P Q a w:=by
 refine wp_mono h ?_;rintro e a' w' hp
 cases e with
 | normal=>obtain ⟨ρ,hr,h⟩:=hp;exact hk a' ρ w' hr h
 | ret=>obtain ⟨ρ,hr,h⟩:=hp;exact h.elim
 | panic ch=>obtain ⟨_,h,_⟩:=hp
 | exit k=>obtain ⟨_,_,h⟩:=hp;exact h.elim
 | goto k=>obtain ⟨_,_,h⟩:=hp;exact h.elim
 | outgrown=>obtain ⟨_,_,h⟩:=hp;exact h.elim
theorem Zoc {P:Program}{N:Nat}{F:Fence}{n:Nat}{c:Code}{a:Act}{w:World}{S:Array Value->World->Prop}{T:Env->Array Value}{K:Act->World->Prop}
  (h:c.wpIn F n P (post (pan (RS S)) N (QX (λ ρ w=>RS S (.returned (.tuple (T ρ))) w) (λ ρ w=>RS S (.returned (.bool false)) w) [])) a w)
  (hk:∀a' ρ' w',Rel N a' ρ'->S (T ρ') w'->K a' w'):c.wpIn F n P (Exit.then K (λ _ _ _=>False)) a w:=by
 refine wpIn_mono h ?_;rintro e a' w' hp
 cases e with
 | normal=>obtain ⟨ρ,hr,h⟩:=hp;exact hk a' ρ w' hr h
 | ret=>obtain ⟨ρ,hr,h⟩:=hp;exact h.elim
 | panic ch=>obtain ⟨_,h,_⟩:=hp
 | exit k=>obtain ⟨_,_,h⟩:=hp;exact h.elim
 | goto k=>obtain ⟨_,_,h⟩:=hp;exact h.elim
 | outgrown=>obtain ⟨_,_,h⟩:=hp;exact h.elim
def RB (S:World->Prop):Ending->World->Prop
 | .returned (.bool true),w=>S w
 | _,_=>False
theorem Zno {P:Program}{N:Nat}{F:Fence}{n:Nat}{c:Code}{a:Act}{w:World}{S:World->Prop}{Q:Exit->Act->World->Prop}
  (h:c.wpIn F n P (post (pan (RB S)) N (QX (λ _ w=>RB S (.returned (.bool true)) w) (λ _ w=>RB S (.returned (.bool false)) w) [])) a w)
  (hk:∀a' w',S w'->Q .normal a' w'):c.wpIn F n P Q a w:=by
 refine wpIn_mono h ?_;rintro e a' w' hp
 cases e with
 | normal=>obtain ⟨ρ,hr,h⟩:=hp;exact hk a' w' h
 | ret=>obtain ⟨ρ,hr,h⟩:=hp;exact h.elim
 | panic ch=>obtain ⟨_,h,_⟩:=hp
 | exit k=>obtain ⟨_,_,h⟩:=hp;exact h.elim
 | goto k=>obtain ⟨_,_,h⟩:=hp;exact h.elim
 | outgrown=>obtain ⟨_,_,h⟩:=hp;exact h.elim
theorem St.avoid {W0 w:World}{L0 L1:List Ch}(s:St noB W0 w (L0++L1)){X:Nat->Prop}(hX:∀i,X i->∃(k:Nat) (c:Ch),L1[k]?=some c/\∀F:Nat->Prop,c.ok w F->F i):Zih L0 w (λ i=>W0.heap.size<=i/\¬X i):=by
 obtain ⟨hc,T,ht,hk⟩:=s;refine ⟨λ i=>if T i<=L0.length then T i else 0,λ i hi=>?_,λ k c hk'=>?_⟩
 ·by_cases e:T i<=L0.length
  ·dsimp only at hi;rw[if_pos e]at hi;refine ⟨⟨Qc8 (ht i hi).1,λ hx=>?_⟩,(ht i hi).2⟩;obtain ⟨k,c,h1,h2⟩:=hX i hx;have:=h2 _ (hk (L0.length+k) c (by rw[Qi (by omega),Qa5];exact h1));omega
  ·dsimp only at hi;rw[if_neg e]at hi;exact absurd rfl hi
 ·have hkl:=(Qa.1 hk').1;refine c.keep (X:=noB) (hk k c (by rw[Qf hkl];exact hk')) (Chg.refl _ _) (λ _ _ _=>id) λ i _ e=>?_;dsimp only;rw[if_pos (by omega)];exact e
def FrX (X:Nat->Prop)(n0 n i:Nat):Prop:=n0<=i/\¬X i/\¬(n<=i/\i<n+2)
theorem Zz4 {α:Type}{P:Program}{N:Nat}{D:List Deferred}{g:Operand}{p:Tmp}{asg bd:Code}{k:Nat}{Q:Exit->Act->World->Prop}{a:Act}{ρ:Env}{W0 w:World}
  {gf:Nat} {lb:Array Value} {encs:α->Value} {X:Nat->Prop} {S Sp Ok:List α->Prop}
  (hr:Rel N a ρ D) (hg:a.eval g = .func (.func gf) #[] lb) (eg:∀args w,(callFunc gf args).run P w = .ok (.enter gf args) w)
  (hseq:SeqM P gf lb (λ x=>#[encs x]) (λ i=>W0.heap.size<=i/\¬X i) 0 S Sp Ok w)
  (hX:∀i,X i->i<w.heap.size) (I:List α->List Ch->Prop) (E:Env->α->Prop) {L0:List Ch} (h0:I [] L0) (hc0:Chg noB W0 w) (hL0:Zih L0 w (λ i=>W0.heap.size<=i/\¬X i))
  (hassign:∀(l:Nat) (x:α) (W:World) (K:Act->World->Prop),(∀a₁ ρ₁,Rel N a₁ ρ₁->E ρ₁ x->K a₁ W)->asg.wpIn (Fence.wide.inRound l) 0 P (Exit.then K (λ _ _ _=>False)) {tmps:=a.tmps.setIfInBounds p (encs x),defers:=[] } W)
  (hbody:∀(l:Nat) (pre:List α) (x:α) (a₁:Act) (ρ₁:Env) (W:World) (L:List Ch),Rel N a₁ ρ₁->E ρ₁ x->I pre L->Ok (pre++[x])->w.heap.size+2<=W.heap.size->Chg noB W0 W->St (FrX X W0.heap.size w.heap.size) W W L ->
   bd.wpIn (Fence.wide.inRound l) 0 P (λ e _ W'=>e = .normal/\∃L',I (pre++[x]) L'/\St (FrX X W0.heap.size w.heap.size) W W' L') a₁ W)
  (hdone:∀(W':World) (d:Nat) (xs:List α) (L':List Ch),S xs->I xs L'->St noB W0 W' (L'++[Zpq d])->Q .normal {a with defers:={target := .collected d,args:=#[] }::a.defers } W') :
  (Code.block k (.rangeFunc g #[p] asg bd)).wp P Q a w:=by
 have hws:=hc0.size;refine wp_block ?_;refine ZZ121 hg eg hseq (λ i hi=>⟨by omega,λ hx=>by have:=hX i hx;omega⟩) (λ _=>rfl)
  (λ pre W=>∃L,I pre L/\Chg noB W0 W/\Zih L W (FrX X W0.heap.size w.heap.size))
  (λ _ _ _=>False) ?hI ?hIx ?h0
  (λ pre x a₁ W=>∃L ρ₁,Rel N a₁ ρ₁/\E ρ₁ x/\I pre L/\Chg noB W0 W/\Zih L W (FrX X W0.heap.size w.heap.size)) ?hA ?assign ?body ?done ?stop
 case hI=>
  rintro pre A A' hA ⟨L,h1,h2,h3⟩ hc;exact ⟨L,h1,h2.trans' hc (λ i hi h=>by omega),h3.keep hc (λ i hi h=>by unfold FrX at h;omega) (λ _ _ h=>h)⟩
 case hIx=>exact λ _ _ _ _ _ h=>h.elim
 case h0=>
  exact ⟨L0,h0,hc0,hL0.keep (Chg.refl noB _) (λ _ _ _=>id) λ i hi hh=>⟨hh.1,hh.2,by omega⟩⟩
 case hA=>
  rintro pre x a₁ A A' hA ⟨L,ρ₁,e1,e2,h1,h2,h3⟩ hc;exact ⟨L,ρ₁,e1,e2,h1,h2.trans' hc (λ i hi h=>by omega),h3.keep hc (λ i hi h=>by unfold FrX at h;omega) (λ _ _ h=>h)⟩
 case assign=>
  rintro l pre x W K hsW ⟨L,h1,h2,h3⟩ _ hK;have hz:((#[p]:Array Tmp).zip #[encs x]).foldl (λ t (p,v)=>t.setIfInBounds p v) a.tmps=a.tmps.setIfInBounds p (encs x):=by simp
  rw[hz];exact hassign l x W K λ a₁ ρ₁ e1 e2=>hK a₁ W (Chg.refl _ _) ⟨L,ρ₁,e1,e2,h1,h2,h3⟩
 case body=>
  rintro l pre x a₁ W hsW ⟨L,ρ₁,e1,e2,h1,h2,h3⟩ hok;refine wpIn_mono (hbody l pre x a₁ ρ₁ W L e1 e2 h1 hok hsW h2 (St.enter h3)) ?_;rintro e a' W' ⟨rfl,L',h4,h5⟩;refine ⟨h5.chg.mono λ i _ h=>by unfold FrX at h;exact ⟨⟨h.1,h.2.1⟩,by omega⟩,L',h4,h2.trans' h5.chg (λ i hi h=>by unfold FrX at h;omega),?_⟩;refine h5.leave.keep (Chg.refl noB _) (λ _ _ _=>id) λ i hi hh=>?_;rcases hh with hh|hh
  ·exact hh
  ·exact ⟨by omega,λ hx=>by have:=hX i hx;omega,by omega⟩
 case done=>
  rintro d xs W hD hsW hxs ⟨L,h1,h2,h3⟩ hKm;refine hdone W d xs L hxs h1 ?_;obtain ⟨T,hT,hk⟩:=h3;have hDW:=(Qw.1 hKm).1;refine ⟨h2,λ i=>if i=d then L.length+1 else T i,λ i hi=>?_,λ k c hk'=>?_⟩
  ·by_cases e:i=d
   ·subst e;exact ⟨λ h=>by omega,hDW⟩
   ·dsimp only at hi;rw[if_neg e]at hi;exact ⟨λ hlt=>by have:=(hT i hi).1.1;omega,(hT i hi).2⟩
  ·by_cases hkl:k<L.length
   ·rw[Qf hkl]at hk';refine c.keep (X:=noB) (hk k c hk') (Chg.refl _ _) (λ _ _ _=>id) λ i _ e=>?_;have:=(hT i (by omega)).1.2.2;dsimp only;rw[if_neg (by intro e;subst e;omega)];exact e
   ·rw[Qi (by omega)]at hk';have hk0:k=L.length:=by
     have:=(Qa.1 hk').1;simp at this;omega
    subst hk0;simp at hk';subst hk';exact ⟨by simp,hKm⟩
 case stop=>exact λ _ _ _ _ _ _ _ h _=>h.elim
theorem Zpb {P:Program}{fn:Func}{n:Nat}{tmps:Array Value}{R:Ending->World->Prop}{d:Nat}{ds:List Deferred}{W0 w:World}{L:List Ch}(s:St noB W0 w (L++[Zpq d]))
  (h:∀w',St noB W0 w' L->LeavesInM Fence.wide n P fn tmps R ds .returning w'):LeavesInM Fence.wide n P fn tmps R ({target := .collected d,args:=#[] }::ds) .returning w:=by
 obtain ⟨F,ho,hF,hs⟩:=s.opn (k:=L.length) (c0:=Zpq d) (by simp);refine ⟨by simp,.inl ⟨_,_,rfl,run_takeDeferred ho.2,?_⟩⟩;refine h _ ?_;have hc:Chg F w (w.putObj d (.deferred none)):=Zdk _ ho.1;have:=hs _ Ch.emp hc trivial;have e:(L++[Zpq d]).set L.length Ch.emp=L++[Ch.emp]:=by rw[Qac _ _ (Ql _),Qam];rfl
 rw[e]at this;have h2:=this.take L.length;rw[Qde]at h2
 ·exact h2
 ·rfl
theorem Zq5 {P:Program}{fn:Func}{n N:Nat}{a:Act}{ρ:Env}{R:Ending->World->Prop}{d:Nat}{W0 w:World}{L:List Ch}{t:Tmp}{v:Value}(hr:Rel N a ρ [{target := .collected d,args:=#[] }])(hres:fn.results=#[.tmp t])(hv:ρ t=v)(s:St noB W0 w (L++[Zpq d]))
  (h:∀w',St noB W0 w' L->R (.returned v) w'):bodyPostM Fence.wide n P fn R .ret a w:=by
 show LeavesInM _ _ _ _ a.tmps _ a.defers _ w
 rw[hr.defers];refine Zpb s λ w' s'=>?_;refine ⟨v,?_,h w' s'⟩;have:=hr.get t;rw[hv]at this;have h':a.tmps[t]?.getD undef=v:=by rw[<-Q9];exact this
 simp[results,hres,go_sem,h']
theorem St.swap {G:Nat->Prop}{W w:World}{A B:List Ch}(s:St G W w (A++B)):St G W w (B++A):=by
 refine s.pick (List.range' A.length B.length++List.range A.length) ?_ ?_
 ·rw[Qak];refine ⟨Qdm,Qc7,λ a ha b hb=>?_⟩;simp at ha hb;omega
 ·rw[Qu,Qu];congr 1
  ·refine Qaw λ i=>?_;rw[Qh,Qh];by_cases hi:i<B.length
   ·rw[Qc9 (by simpa using hi),Qb hi];simp only[Qbx,Qcr];rw[Qi (by omega),Qa5,Qb hi]
   ·rw[Qx (by simp;omega),Qx (by omega)];rfl
  ·refine Qaw λ i=>?_;rw[Qh,Qh];by_cases hi:i<A.length
   ·rw[Qdf hi,Qb hi];simp only[Qbx];rw[Qf hi,Qb hi]
   ·rw[Qx (by simp;omega),Qx (by omega)];rfl
theorem rel2 (N:Nat)(hN:2<=N)(x y:Value):∃ρ:Env,Rel N {tmps:=#[x,y]++Array.replicate (N - #[x,y].size) undef,defers:=[] } ρ/\ρ 0=x/\ρ 1=y:=by
 refine ⟨λ n=>(#[x,y]++Array.replicate (N - #[x,y].size) undef).getD n undef,⟨?_,λ _=>rfl,rfl⟩,?_,?_⟩
 ·simp;omega
 ·simp only[Q9];rw[Qca (by simp)];rfl
 ·simp only[Q9];rw[Qca (by simp)];rfl
theorem St.lower {W W1 w:World}{L:List Ch}(s:St noB W1 w L)(hc:Chg noB W W1):St noB W w L:=by
 obtain ⟨h,T,hT,hk⟩:=s;exact ⟨hc.trans h,T,λ i hi=>⟨λ hl=>(hT i hi).1 (Qaj hl hc.size),(hT i hi).2⟩,hk⟩
theorem Zki {α:Type}{r:Rep α}{enc:α->List Value}{w:World}{F:Nat->Prop}{e:TypeId}{A:Option Addr}{n c c':Nat}{l:List α}(h:(rowC e r.size A n c (l.flatMap enc)).ok w F)(hn:n=l.length)(hsz:∀x∈l,(enc x).length=r.size)(hpos:0<r.size)(hok:∀B,∀x∈l,r.ok w B (enc x) x)(h1:n<=c')(h2:c'<=maxLen):(Zq r).at1 w w.heap.size (.slice A n c') l:=by
 subst hn;refine ⟨A,c',rfl,h1,h2,trivial,λ hp=>?_⟩;obtain ⟨g,eg,_,_,_,hlt⟩:=Zck h hsz hpos (i:=0) (x:=l[0]) (Qb hp);subst eg;refine ⟨g,0,rfl,hlt,λ i x hi=>⟨enc x,hok _ x (Qe hi),λ j u hj=>?_⟩⟩;obtain ⟨g',eg',hc,_⟩:=Zck h hsz hpos hi;injection eg' with eg';injection eg' with eg';subst eg';rw[Qa3];exact hc j u hj
open Go.ChangeMaps Go.WideElems Go.MapKept
set_option linter.unusedSectionVars false
def pendC (b:Nat)(es:Array MapEntry)(clock:Nat):Ch where
 ok w F:=F b/\w.heap[b]?=some (.map es clock)
 keep h hc hX hF:=by
  have hb:=(Qw.1 h.2).1
  exact ⟨hF _ hb h.1,(hc.block b hb (hX b hb h.1)).trans h.2⟩
theorem Zi6 {w:World}{b:Nat}{o:Obj}:Chg (·=b) w (setBlock w b o):=⟨rfl,rfl,rfl,by simp[setBlock],λ i _ hi=>by simp[setBlock,Qc1 (Ne.symm hi)]⟩
section
variable {G:Nat->Prop} {W w w':World} {L:List Ch} {P:Program} {κ:Type} {Y:KeyT κ} {t kt e:TypeId} {z:Value} {n:Nat} {f:κ->Option Value}
theorem St.mapVEntry (M:Zk1 P Y t kt e z)(K:Go.WideMaps.KeyLaw P kt)(h:St G W w L)(k:Nat){v:Value}(hk:L[k]?=some (Zdt P Y kt v n f))(a:κ)(ha:Y.good a)(hn:n<maxLen) :
  ∃(b st:Nat) (w1:World) (es:Array MapEntry) (clock:Nat),v = .map (some b)/\(Instr.mapEntry t v (Y.val a)).run P w = .ok (.tuple #[(f a).getD z,goInt st]) w1/\St G W w1 (L.set k (pendC b es clock)) /\
   ∀(G2:Nat->Prop) (W2 w2:World) (L2:List Ch) (k2:Nat),St G2 W2 w2 L2->L2[k2]?=some (pendC b es clock)->∀(u:Value) (f':κ->Option Value),f' a=some u->(∀c,c≠a->f' c=f c) ->
    ∃w3,(Instr.entryStore t v (goInt st) u).run P w2 = .ok () w3/\St G2 W2 w3 (L2.set k2 (Zdt P Y kt v (n+1) f')):=by
 have hget:=h.mapVGet M k hk a ha;have hkl:=(Qa.1 hk).1;obtain ⟨F,⟨b,rfl,hb,D,hD,hsay⟩,hF,hs⟩:=h.opn hk;obtain ⟨es0,clock0,hb0,F0,hsz,rfl⟩:=id hD;obtain ⟨v0,st,es1,clock1,hrun,hv0,hst⟩:=entry_then_store K M.tm M.zero hb0 F0 (M.key a ha);have hbl:b<w.heap.size:=(Qw.1 hb0).1;have hsame:∀(w:World) (o:Obj),b<w.heap.size->(setBlock w b o).heap[b]?=some o:=λ w o hl=>by simp[setBlock,hl]
 have ev:v0=(f a).getD z:=by
  obtain ⟨st1,st2,st3⟩:=(stamped_iff es0 clock0).1 F0.stamped;rcases Maps.fit_look false M.keyed M.tm (M.zero w) hb0 F0 (M.key a ha) with ⟨g1,g2,_⟩|⟨e0,y,g1,g2,g3,_⟩
  ·rw[g1]at hget;simp at hget;rcases hv0 with ⟨e0,h1,h2,_⟩|⟨_,h2⟩
   ·exact absurd h2 (g2 e0 h1)
   ·exact h2.trans hget
  ·rw[g3]at hget;simp at hget;rcases hv0 with ⟨e1,h1,h2,h3⟩|⟨h1,_⟩
   ·have:e1=e0:=by
     obtain ⟨i,hi⟩:=Qo.1 h1;obtain ⟨j,hj⟩:=Qo.1 g1;obtain ⟨hi1,hi2⟩:=Qa.1 hi;obtain ⟨hj1,hj2⟩:=Qa.1 hj;by_cases hij:i=j
     ·subst hij;rw[<-hi2,<-hj2]
     ·exfalso
      rcases Nat.lt_or_gt_of_ne hij with hlt|hlt
      ·exact (Qt.1 st3) i j hi1 hj1 hlt (by rw[hi2,hj2,h2,g2])
      ·exact (Qt.1 st3) j i hj1 hi1 hlt (by rw[hi2,hj2,h2,g2])
    rw[h3,this,hget]
   ·exact absurd g2 (h1 e0 g1)
 refine ⟨b,st,_,es1,clock1,rfl,by rw[hrun,ev],hs _ _ (Zi6.mono λ i _ e=>by rw[e];exact hb) ⟨Or.inl hb,hsame _ _ hbl⟩,λ G2 W2 w2 L2 k2 s2 hk2 u f' h3 h4=>?_⟩;obtain ⟨F2,⟨q1,q2⟩,_,hs2⟩:=s2.opn hk2;obtain ⟨es',clock',r1,r2⟩:=hst w2 u q2;obtain ⟨w',hrun',hown,hg⟩:=hD.update M.keyed M.tm hn (M.key a ha) (val:=u) (d := .held u) (ps:=[]) rfl;rw[r2]at hrun';injection hrun' with _ hw';subst hw';have hbl2:b<w2.heap.size:=(Qw.1 q2).1;refine ⟨_,r1,hs2 _ _ (Zi6.mono λ i _ e=>by rw[e];exact q1) ⟨b,rfl,Or.inl q1,DataW.put (.map ((es0.toList.map (rg P kt hv)).foldr DataW.insert [])) (Y.lit a) (.held u),?_,λ c hc=>?_,λ c x hc=>?_,λ c x=>?_⟩⟩
 ·obtain ⟨es,clock,hb',h2⟩:=hown;exact ⟨es,clock,by rw[hsame _ _ hbl2,<-hsame _ _ hbl];exact hb',h2⟩
 ·by_cases hca:c=a
  ·subst hca;rw[h3]at hc;cases hc
  ·rw[Maps.has_put_other (λ e=>hca (Y.inj e))];exact hsay.off c (by rw[<-h4 c hca];exact hc)
 ·by_cases hca:c=a
  ·subst hca;exact Maps.has_put_same hD.isMap (Y.isLit c) _
  ·rw[Maps.has_put_other (λ e=>hca (Y.inj e))];exact hsay.on c x (by rw[<-h4 c hca];exact hc)
 ·by_cases hca:c=a
  ·subst hca;rw[Maps.atKey_put_same hD.isMap (Y.isLit c),h3];rfl
  ·rw[Maps.atKey_put_other (λ e=>hca (Y.inj e)),hsay.at' c,h4 c hca]
end
theorem St.intoAt {G:Nat->Prop}{W w:World}{L L':List Ch}(h:St G W w L)(j k q:Nat){c:Ch}(hj:L[j]?=some c)(hk:L[k]?=some (Ch.all L'))(hjk:j≠k)(hq:q<L'.length):St G W w ((L.set j Ch.emp).set k (Ch.all (L'.set q c))):=by
 obtain ⟨hc,T,ht,hL⟩:=h;obtain ⟨T',ht',hL'⟩:=hL k _ hk;refine ⟨hc,λ i=>if T i=j+1 then k+1 else T i,λ i hi=>?_,λ n x hn=>?_⟩
 ·by_cases e:T i=j+1
  ·exact ht i (by omega)
  ·dsimp only at hi;rw[if_neg e]at hi;exact ht i hi
 ·rw[Qaq]at hn;by_cases e1:k=n
  ·subst e1;have hkl:=(Qa.1 hk).1;rw[if_pos rfl,if_pos (by simpa using hkl)]at hn;injection hn with hn;subst hn;refine ⟨λ i=>if T i=j+1 then q+1 else if T i=k+1 then (if T' i=q+1 then 0 else T' i) else 0,λ i hi=>?_,λ m d hd=>?_⟩
   ·by_cases e2:T i=j+1
    ·exact ⟨by dsimp only;rw[if_pos e2],(ht i (by omega)).2⟩
    ·dsimp only at hi;rw[if_neg e2]at hi;by_cases e3:T i=k+1
     ·rw[if_pos e3]at hi;by_cases e4:T' i=q+1
      ·rw[if_pos e4]at hi;exact absurd rfl hi
      ·rw[if_neg e4]at hi;exact ⟨by dsimp only;rw[if_neg e2];exact e3,(ht' i hi).2⟩
     ·rw[if_neg e3]at hi;exact absurd rfl hi
   ·rw[Qaq]at hd;by_cases hm:q=m
    ·subst hm;rw[if_pos rfl,if_pos hq]at hd;injection hd with hd;subst hd;refine Ch.keep _ (X:=noB) (hL j _ hj) (Chg.refl _ _) (λ _ _ _=>id) λ i _ e4=>?_
     show (if T i=j+1 then q+1 else if T i=k+1 then (if T' i=q+1 then 0 else T' i) else 0)=q+1
     rw[if_pos e4]
    ·rw[if_neg hm]at hd;refine d.keep (X:=noB) (hL' m d hd) (Chg.refl _ _) (λ _ _ _=>id) λ i _ e4=>?_;have e4:T' i=m+1:=e4;have h3:=(ht' i (by omega)).1
     show (if T i=j+1 then q+1 else if T i=k+1 then (if T' i=q+1 then 0 else T' i) else 0)=m+1
     rw[if_neg (by omega),if_pos h3,if_neg (by omega)];exact e4
  ·rw[if_neg e1,Qaq]at hn;by_cases e2:j=n
   ·subst e2;have hjl:=(Qa.1 hj).1;rw[if_pos rfl,if_pos hjl]at hn;injection hn with hn;subst hn;trivial
   ·rw[if_neg e2]at hn;refine x.keep (X:=noB) (hL n x hn) (Chg.refl _ _) (λ _ _ _=>id) λ i hi e=>?_;dsimp only;rw[if_neg (by omega)];exact e
variable {G:Nat->Prop} {W w:World} {L L':List Ch}
theorem St.allSnoc {c:Ch}(h:St G W w (L++[Ch.all L',c])):St G W w (L++[Ch.all (L'++[c])]):=by
 have h1:St G W w ((L++[Ch.all L'])++[c]):=by rw[Q5];exact h
 have h2:St G W w (([c]++L)++[Ch.all L']):=by rw[Q5];exact h1.swap
 have h3:St G W w ([c]++(L++L')):=by rw[<-Q5];exact h2.flat
 have h4:St G W w (L++(L'++[c])):=by rw[<-Q5];exact h3.swap
 exact h4.unflat
end Go.Px
