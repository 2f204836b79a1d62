/-
  Texts of this claim: PxSt, PxBits, PxTxt, PxLend, PxQ, PxMapV, PxGrp.
-/
import Derived.Test.YtjibcckpehdbhaaGreatDoorY02
import Derived.WalkSmall
import Derived.Lib.TrailingZeros
import Derived.Lib.FrozenHead2
import Derived.Laws.IdiomStrings
import Derived.Laws.OwnMore
import Derived.ArgAppend
import Derived.Deep.MidRow
import Derived.Deep.Upon
import Derived.Maps.Range
namespace Go.Px
open Go.RowKit
structure Ch where
 ok:World->(Nat->Prop)->Prop
 keep:∀{w w':World} {X F F':Nat->Prop},ok w F->Chg X w w'->(∀b,b<w.heap.size->F b->¬X b)->(∀b,b<w.heap.size->F b->F' b)->ok w' F'
def Zih (L:List Ch)(w:World)(F:Nat->Prop):Prop :=
 ∃T:Nat->Nat,(∀i,T i≠0->F i/\i<w.heap.size)/\∀(k:Nat) (c:Ch),L[k]?=some c->c.ok w (λ i=>T i=k+1)
theorem Zih.keep {L:List Ch}{w w':World}{X F F':Nat->Prop}(h:Zih L w F)(hc:Chg X w w')(hX:∀b,b<w.heap.size->F b->¬X b)(hF:∀b,b<w.heap.size->F b->F' b):Zih L w' F':=by
 obtain ⟨T,ht,hk⟩:=h;exact ⟨T,λ i hi=>⟨hF i (ht i hi).2 (ht i hi).1,Qaj (ht i hi).2 hc.size⟩,λ k c hc'=>c.keep (hk k c hc') hc (λ b hb e=>hX b hb (ht b (by omega)).1) λ b _ e=>e⟩
def Ch.all (L:List Ch):Ch:=⟨Zih L,Zih.keep⟩
def Ch.ex {α:Type}(f:α->Ch):Ch:=⟨λ w F=>∃a,(f a).ok w F,λ ⟨a,h⟩ hc hX hF=>⟨a,(f a).keep h hc hX hF⟩⟩
def Ch.emp:Ch:=⟨λ _ _=>True,λ _ _ _ _=>trivial⟩
structure St (G:Nat->Prop)(W w:World)(L:List Ch):Prop where
 chg:Chg G W w
 all:Zih L w (λ i=>i<W.heap.size->G i)
abbrev noB:Nat->Prop:=λ _=>False
section
variable {G:Nat->Prop} {W w w':World} {L L':List Ch}
theorem St.start (h:Chg G W w):St G W w []:=⟨h,λ _=>0,λ i hi=>absurd rfl hi,λ k c hk=>by simp at hk⟩
theorem St.refl (G:Nat->Prop)(w:World):St G w w []:=St.start (Chg.refl _ _)
theorem St.enter {F:Nat->Prop}(h:Zih L w F):St F w w L:=by
 obtain ⟨T,ht,hk⟩:=h;exact ⟨Chg.refl _ _,T,λ i hi=>⟨λ _=>(ht i hi).1,(ht i hi).2⟩,hk⟩
theorem St.leave {F:Nat->Prop}(h:St F w w' L):Zih L w' (λ i=>F i\/(w.heap.size<=i/\i<w'.heap.size)):=by
 obtain ⟨_,T,ht,hk⟩:=h;refine ⟨T,λ i hi=>⟨?_,(ht i hi).2⟩,hk⟩;by_cases hlt:i<w.heap.size
 ·exact Or.inl ((ht i hi).1 hlt)
 ·exact Or.inr ⟨by omega,(ht i hi).2⟩
theorem St.get (h:St G W w L){k:Nat}{c:Ch}(hk:L[k]?=some c):∃F:Nat->Prop,c.ok w F/\∀i,F i->i<w.heap.size/\(i<W.heap.size->G i):=by
 obtain ⟨_,T,ht,hL⟩:=h;exact ⟨_,hL k c hk,λ i hi=>⟨(ht i (by omega)).2,(ht i (by omega)).1⟩⟩
theorem St.old (h:St G W w L)(hc:Chg noB w w'):St G W w' L :=
 ⟨h.chg.trans' hc λ _ _ h=>h.elim,h.all.keep hc (λ _ _ _=>id) (λ _ _ h=>h)⟩
theorem St.opn (h:St G W w L){k:Nat}{c0:Ch}(hk:L[k]?=some c0) :
  ∃F:Nat->Prop,c0.ok w F/\(∀i,F i->i<w.heap.size/\(i<W.heap.size->G i))/\∀(w':World) (c:Ch),Chg F w w'->c.ok w' (λ i=>F i\/(w.heap.size<=i/\i<w'.heap.size))->St G W w' (L.set k c):=by
 obtain ⟨hc0,T,ht,hL⟩:=h;refine ⟨λ i=>T i=k+1,hL k c0 hk,λ i hi=>⟨(ht i (by omega)).2,(ht i (by omega)).1⟩,λ w' c hc hok=>⟨?_,λ i=>if w.heap.size<=i/\i<w'.heap.size then k+1 else T i,λ i hi=>?_,λ j d hj=>?_⟩⟩
 ·exact hc0.trans' hc λ i hi e=>(ht i (by omega)).1 hi
 ·by_cases e:w.heap.size<=i/\i<w'.heap.size
  ·exact ⟨λ h=>by have:=hc0.size;omega,e.2⟩
  ·dsimp only at hi;rw[if_neg e]at hi;exact ⟨(ht i hi).1,Qaj (ht i hi).2 hc.size⟩
 ·rw[Qaq]at hj;by_cases e:k=j
  ·subst e;have hkl:=(Qa.1 hk).1;rw[if_pos rfl,if_pos hkl]at hj;injection hj with hj;subst hj;refine c.keep (X:=noB) hok (Chg.refl _ _) (λ _ _ _=>id) λ i hi e=>?_;rcases e with e|e
   ·have h1:=(ht i (by omega)).2;dsimp only;rw[if_neg (by omega)];exact e
   ·dsimp only;rw[if_pos e]
  ·rw[if_neg e]at hj;refine d.keep (hL j d hj) hc (λ i hi e1 e2=>by omega) λ i hi e1=>?_;dsimp only;rw[if_neg (by omega)];exact e1
theorem St.seq (h:St G W w L)(h2:St noB w w' L'):St G W w' (L++L'):=by
 obtain ⟨hc,T,ht,hL⟩:=h;obtain ⟨hc2,T2,ht2,hL2⟩:=h2;refine ⟨hc.trans' hc2 λ _ _ h=>h.elim,λ i=>if T2 i≠0 then T2 i+L.length else T i,λ i hi=>?_,λ k c hk=>?_⟩
 ·by_cases e:T2 i≠0
  ·exact ⟨λ hi=>((ht2 i e).1 (by have:=hc.size;omega)).elim,(ht2 i e).2⟩
  ·dsimp only at hi;rw[if_neg e]at hi;exact ⟨(ht i hi).1,Qaj (ht i hi).2 hc2.size⟩
 ·by_cases hkl:k<L.length
  ·rw[Qf hkl]at hk;refine c.keep (hL k c hk) hc2 (λ _ _ _=>id) λ i hi e=>?_;dsimp only;rw[if_neg];exact e;intro h0;exact ((ht2 i h0).1 hi).elim
  ·rw[Qi (by omega)]at hk;refine c.keep (X:=noB) (hL2 _ c hk) (Chg.refl _ _) (λ _ _ _=>id) λ i hi e=>?_;dsimp only;rw[if_pos (by omega)];omega
theorem St.take (h:St G W w L)(n:Nat):St G W w (L.take n):=by
 obtain ⟨hc,T,ht,hL⟩:=h;refine ⟨hc,T,ht,λ k c hk=>hL k c ?_⟩;rw[Qbm]at hk;split at hk
 ·exact hk
 ·cases hk
theorem St.pick (h:St G W w L)(is:List Nat)(hnd:is.Nodup)(hL:is.map (λ i=>L[i]?)=L'.map some):St G W w L':=by
 obtain ⟨hc,T,ht,hk⟩:=h;refine ⟨hc,λ i=>if T i=0 then 0 else if T i-1∈is then is.idxOf (T i-1)+1 else 0,λ i hi=>?_,λ k c hc'=>?_⟩
 ·refine ht i λ h0=>?_;dsimp only at hi;rw[if_pos h0]at hi;exact hi rfl
 ·have h1:(is.map (λ i=>L[i]?))[k]?=some (some c):=by rw[hL,Qh,hc'];rfl
  rw[Qh]at h1
  cases hi:is[k]? with
  | none=>rw[hi]at h1;cases h1
  | some n=>
   rw[hi]at h1;injection h1 with h1;refine c.keep (X:=noB) (hk n c h1) (Chg.refl _ _) (λ _ _ _=>id) λ i _ e=>?_;have hnm:n∈is:=Qe hi;have hidx:is.idxOf n=k:=by
    have hkl:=(Qa.1 hi).1;have hke:=(Qa.1 hi).2;rw[<-hke];exact hnd.idxOf_getElem k hkl
   have e':T i=n+1:=e;simp only[e',Nat.add_sub_cancel,hnm,if_true,hidx];rw[if_neg (by omega)]
theorem St.push (h:St G W w L){c:Ch}(hc:c.ok w noB):St G W w (L++[c]):=by
 refine h.seq (w':=w) ⟨Chg.refl _ _,λ _=>0,λ i hi=>absurd rfl hi,λ k d hk=>?_⟩
 match k,hk with
 | 0,hk=>injection hk with hk;subst hk;exact c.keep hc (Chg.refl noB _) (λ _ _ _=>id) (λ _ _ h=>h.elim)
 | k+1,hk=>simp at hk
theorem St.merge (h:St G W w L){j k:Nat}{c d:Ch}(hj:L[j]?=some c)(hk:L[k]?=some d)(hjk:j≠k){e:Ch}(he:∀F F',c.ok w F->d.ok w F'->e.ok w (λ i=>F i\/F' i)):St G W w ((L.set j Ch.emp).set k e):=by
 obtain ⟨hc,T,ht,hL⟩:=h;refine ⟨hc,λ i=>if T i=j+1 then k+1 else T i,λ i hi=>?_,λ n x hn=>?_⟩
 ·by_cases e:T i=j+1
  ·exact ht i (by omega)
  ·dsimp only at hi;rw[if_neg e]at hi;exact ht i hi
 ·rw[Qaq]at hn;by_cases e1:k=n
  ·subst e1;have hkl:=(Qa.1 hk).1;rw[if_pos rfl,if_pos (by simpa using hkl)]at hn;injection hn with hn;subst hn;refine e.keep (X:=noB) (he _ _ (hL j c hj) (hL k d hk)) (Chg.refl _ _) (λ _ _ _=>id) λ i hi e=>?_;rcases e with e|e
   ·dsimp only;rw[if_pos e]
   ·dsimp only;rw[if_neg (by omega)];exact e
  ·rw[if_neg e1,Qaq]at hn;by_cases e2:j=n
   ·subst e2;have hjl:=(Qa.1 hj).1;rw[if_pos rfl,if_pos hjl]at hn;injection hn with hn;subst hn;trivial
   ·rw[if_neg e2]at hn;refine x.keep (X:=noB) (hL n x hn) (Chg.refl _ _) (λ _ _ _=>id) λ i hi e=>?_;dsimp only;rw[if_neg (by omega)];exact e
theorem St.turn (h:St G W w L){k:Nat}{c d:Ch}(hk:L[k]?=some c)(hd:∀F,c.ok w F->d.ok w F):St G W w (L.set k d):=by
 obtain ⟨F,ho,_,hs⟩:=h.opn hk;exact hs w d (Chg.refl _ _) (d.keep (hd F ho) (Chg.refl noB _) (λ _ _ _=>id) λ _ _ h=>Or.inl h)
end
def boxC (b:Nat)(t:TypeId)(cs:List Value):Ch where
 ok w F:=F b/\w.heap[b]?=some (.cells cs.toArray t (0,0))
 keep h hc hX hF:=by
  have hb:=(Qw.1 h.2).1
  exact ⟨hF _ hb h.1,(hc.block b hb (hX b hb h.1)).trans h.2⟩
def rowC (e:TypeId)(size:Nat)(a:Option Addr)(n c:Nat)(xs:List Value):Ch where
 ok w F:=w.ownsRow 0 e size (.slice a n c) n xs/\∀i,(Value.slice a n c).ownBlock=some i->F i
 keep h hc hX hF:=by
  have hb:=λ i hi=>(Zfe h.1 (k:=i) hi).2
  refine ⟨?_,λ i hi=>hF i (hb i hi) (h.2 i hi)⟩
  refine ⟨h.1.1,?_⟩
  rcases h.1.2 with h2|⟨g,cap,cur,hv,hbs,hg,hr⟩
  ·exact Or.inl h2
  ·refine Or.inr ⟨g,cap,cur,hv,hbs,?_,hr⟩
   have:=hb g (by rw[hv];rfl)
   rw[hc.block g this (hX g this (h.2 g (by rw[hv];rfl)))]
   exact hg
def mapC (P:Program){κ:Type}(Y:KeyT κ)(k e:TypeId)(v:Value)(n:Nat)(f:κ->Int):Ch where
 ok w F:=Zfu P Y k e w v n f/\∀i,v = .map (some i)->F i
 keep h hc hX hF:=⟨h.1.chg hc λ i hi=>hX i (h.1.lt hi) (h.2 i hi),λ i hi=>hF i (h.1.lt hi) (h.2 i hi)⟩
def Zw (w:World)(b:Nat):Nat->List Value->Prop
 | _,[]=>True
 | j,v::r=>w.cell? ⟨b,j,none⟩=some v/\Zw w b (j+1) r
theorem Zrh {w:World}{b:Nat}:∀{cs:List Value} {j:Nat},(∀i u,cs[i]?=some u->w.cell? ⟨b,j+i,none⟩=some u)->Zw w b j cs
 | [],_,_=>trivial
 | v::r,j,h=>⟨h 0 v rfl,Zrh (cs:=r) (j:=j+1) λ i u hi=>by rw[show j+1+i=j+(i+1) by omega];exact h (i+1) u (by simpa using hi)⟩
section
variable {G:Nat->Prop} {W w w':World} {L L':List Ch}
theorem ZZ157 {b:Nat}{t:TypeId}{cs:List Value}{F:Nat->Prop}(h:(boxC b t cs).ok w F):Zw w b 0 cs/\(∀j,w.frozen? ⟨b,j,none⟩=false)/\b<w.heap.size:=by
 refine ⟨Zrh λ i u hi=>?_,λ j=>?_,(Qw.1 h.2).1⟩
 ·simp only[World.cell?,h.2,Qa3];simpa using hi
 ·simp[World.frozen?,h.2]
theorem St.box (h:St G W w L)(k:Nat){b:Nat}{t:TypeId}{cs:List Value}(hk:L[k]?=some (boxC b t cs)):Zw w b 0 cs/\(∀j,w.frozen? ⟨b,j,none⟩=false)/\b<w.heap.size:=by
 obtain ⟨F,ho,_⟩:=h.get hk;exact ZZ157 ho
theorem Zgy (w:World)(p:Addr)(u:Value):Chg (·=p.block) w (w.setCell p u):=(Chg.refl (λ x=>x=p.block) w).setCell (p:=p) (Or.inl rfl) u
theorem St.set (h:St G W w L)(k:Nat){b:Nat}{t:TypeId}{cs:List Value}(hk:L[k]?=some (boxC b t cs))(j:Nat)(u:Value):St G W (w.setCell ⟨b,j,none⟩ u) (L.set k (boxC b t (cs.set j u))):=by
 obtain ⟨F,ho,_,hs⟩:=h.opn hk;refine hs _ _ ((Zgy _ _ _).mono λ i _ e=>by rw[e];exact ho.1) ⟨Or.inl ho.1,?_⟩;rw[heap_setCell_same w b j cs.toArray t u ho.2,List.setIfInBounds_toArray]
theorem St.alloc (h:St G W w L)(cs:Array Value)(t:TypeId):St G W (w.alloc (.cells cs t)) (L++[boxC w.heap.size t cs.toList]):=by
 refine h.seq ⟨(Chg.refl _ _).alloc _,λ i=>if i=w.heap.size then 1 else 0,λ i hi=>?_,λ k d hk=>?_⟩
 ·by_cases e:i=w.heap.size
  ·subst e;exact ⟨λ h=>absurd h (Qbo _),by simp⟩
  ·dsimp only at hi;rw[if_neg e]at hi;exact absurd rfl hi
 ·match k,hk with
  | 0,hk=>injection hk with hk;subst hk;exact ⟨by simp,by simpa using World.alloc_heap_new w _⟩
  | k+1,hk=>simp at hk
theorem St.map (h:St G W w L)(P:Program){κ:Type}(Y:KeyT κ)(k e:TypeId):St G W (w.alloc (.map #[] 0)) (L++[mapC P Y k e (.map (some w.heap.size)) 0 (λ _=>0)]):=by
 refine h.seq ⟨(Chg.refl _ _).alloc _,λ i=>if i=w.heap.size then 1 else 0,λ i hi=>?_,λ k d hk=>?_⟩
 ·by_cases e:i=w.heap.size
  ·subst e;exact ⟨λ h=>absurd h (Qbo _),by simp⟩
  ·dsimp only at hi;rw[if_neg e]at hi;exact absurd rfl hi
 ·match k,hk with
  | 0,hk=>injection hk with hk;subst hk;exact ⟨Zfu.made _ _ _ _ _,λ i hi=>by injection hi with hi;injection hi with hi;simp[hi]⟩
  | k+1,hk=>simp at hk
theorem St.lit (h:St G W w L)(e:TypeId)(size n:Nat)(cs:Array Value)(hn:n<=maxLen)(hs:cs.size=n*size):St G W (w.alloc (.cells cs e)) (L++[rowC e size (some ⟨w.heap.size,0,none⟩) n n cs.toList]):=by
 refine h.seq ⟨(Chg.refl _ _).alloc _,λ i=>if i=w.heap.size then 1 else 0,λ i hi=>?_,λ k d hk=>?_⟩
 ·by_cases e:i=w.heap.size
  ·subst e;exact ⟨λ h=>absurd h (Qbo _),by simp⟩
  ·dsimp only at hi;rw[if_neg e]at hi;exact absurd rfl hi
 ·match k,hk with
  | 0,hk=>injection hk with hk;subst hk;exact ⟨World.ownsRow_lit w cs n (Qy _) hn hs,λ i hi=>by injection hi with hi;simp[<-hi]⟩
  | k+1,hk=>simp at hk
theorem Zlv (w:World)(e:TypeId)(size:Nat)(F:Nat->Prop):(rowC e size none 0 0 []).ok w F:=⟨World.ownsRow_nil _ _ _ _,λ i hi=>by cases hi⟩
theorem St.nilRow (h:St G W w L)(e:TypeId)(size:Nat):St G W w (L++[rowC e size none 0 0 []]):=h.push (Zlv _ _ _ _)
theorem Zra {e:TypeId}{size:Nat}{a:Option Addr}{n c:Nat}{xs:List Value}{F:Nat->Prop}(h:(rowC e size a n c xs).ok w F){j:Nat}(hj:j<xs.length) :
  ∃g,a=some ⟨g,0,none⟩/\w.cell? ⟨g,j,none⟩=some xs[j]/\w.frozen? ⟨g,j,none⟩=false/\F g/\g<w.heap.size:=by
 rcases h.1.2 with ⟨h1,h2⟩|⟨g,cap,cur,hv,hb,hg,hn,hm,hs,ht⟩
 ·have:=h.1.1;rw[h2]at this;omega
 ·injection hv with hv;refine ⟨g,hv,?_,?_,h.2 g (by rw[hv];rfl),(Qw.1 hg).1⟩
  ·have h3:cur.toList[j]?=some xs[j]:=by
    have h4:(cur.toList.take (n*size))[j]?=some xs[j]:=by rw[ht];exact Qb hj
    rw[Qbm]at h4;split at h4
    ·exact h4
    ·cases h4
   simp[World.cell?,hg,<-h3]
  ·simp[World.frozen?,hg]
theorem Zee {e:TypeId}{size:Nat}{a:Option Addr}{n c:Nat}{xs:List Value}{F:Nat->Prop}(h:(rowC e size a n c xs).ok w F):xs.length=n*size/\n<=c/\c<=maxLen:=by
 refine ⟨h.1.1,?_⟩;rcases h.1.2 with ⟨h1,h2⟩|⟨g,cap,cur,hv,hb,hg,hn,hm,hs,ht⟩
 ·injection h1 with _ h1 h3;subst h2 h3;exact ⟨Ql _,by simp[maxLen]⟩
 ·injection hv with _ _ hv;subst hv;exact ⟨hn,hm⟩
theorem St.rowSize (h:St G W w L)(k:Nat){e:TypeId}{size:Nat}{a:Option Addr}{n c:Nat}{xs:List Value}(hk:L[k]?=some (rowC e size a n c xs)):xs.length=n*size/\n<=c/\c<=maxLen:=by
 obtain ⟨F,ho,_⟩:=h.get hk;exact Zee ho
theorem St.rowAt (h:St G W w L)(k:Nat){e:TypeId}{size:Nat}{a:Option Addr}{n c:Nat}{xs:List Value}(hk:L[k]?=some (rowC e size a n c xs)){j:Nat}(hj:j<xs.length) :
  ∃g,a=some ⟨g,0,none⟩/\w.cell? ⟨g,j,none⟩=some xs[j]/\w.frozen? ⟨g,j,none⟩=false:=by
 obtain ⟨F,ho,_⟩:=h.get hk;obtain ⟨g,h1,h2,h3,_⟩:=Zra ho hj;exact ⟨g,h1,h2,h3⟩
theorem St.setRow (h:St G W w L)(k:Nat){e:TypeId}{size g n c:Nat}{xs:List Value}(hk:L[k]?=some (rowC e size (some ⟨g,0,none⟩) n c xs))(j:Nat)(u:Value) :
  St G W (w.setCell ⟨g,j,none⟩ u) (L.set k (rowC e size (some ⟨g,0,none⟩) n c (xs.set j u))):=by
 obtain ⟨F,ho,_,hs⟩:=h.opn hk;have hg:=ho.2 g rfl;refine hs _ _ ((Zgy _ _ _).mono λ i _ e=>by rw[e];exact hg) ⟨(ho.1.stored j u).1,λ i hi=>Or.inl (ho.2 i hi)⟩
theorem St.popRow (h:St G W w L)(k:Nat){e:TypeId}{size:Nat}{a:Option Addr}{n c:Nat}{xs last:List Value}(hk:L[k]?=some (rowC e size a (n+1) c (xs++last)))(hx:xs.length=n*size):St G W w (L.set k (rowC e size a n c xs)):=by
 refine h.turn hk λ F ho=>?_;rcases ho.1.2 with ⟨h1,h2⟩|⟨g,cap,cur,hv,hb,hg,hn,hm,hs,ht⟩
 ·omega
 ·injection hv with hv;subst hv;exact ⟨ownsRow_pop hx ho.1,λ i hi=>ho.2 i hi⟩
theorem St.appendN {P:Program}{X:Pan}{K:Value->World->Prop}(h:St G W w L)(k:Nat){t ty e:TypeId}{z:Value}{size bytes:Nat}{a0:Option Addr}{n c:Nat}{xs:List Value}(hk:L[k]?=some (rowC e size a0 n c xs))
  (ht:P.underlying t=some (.slice e)) (hi:(P.info? e).map (λ i=>(i.zero,i.size,i.bytes))=some (some z,size,bytes)) (hzs:z.cells.size=size) (hsz:0<size)
  {a:Addr} {m c1:Nat} {news:List Value} (hl:news.length=m*size) (hnews:∀j u,news[j]?=some u->w.cell? (a.add j)=some u) (h1:∀u∈news,u.oneCell'=true)
  (h63:n+m<=maxLen) (hbytes:(n+m)*bytes<=Zaf)
  (hK:∀a' cap w',St G W w' (L.set k (rowC e size a' (n+m) cap (xs++news)))->(0<m->∃g,a'=some ⟨g,0,none⟩)->K (.slice a' (n+m) cap) w') :
  RES X ((Builtin.append_ #[t,t] ty #[.slice a0 n c,.slice (some a) m c1]).run P w) K:=by
 obtain ⟨i,hi,hz,hs1,hb1⟩:∃i,P.info? e=some i/\i.zero=some z/\i.size=size/\i.bytes=bytes:=by
  cases hq:P.info? e with
  | none=>rw[hq]at hi;cases hi
  | some i=>rw[hq]at hi;simp at hi;exact ⟨i,rfl,hi.1,hi.2.1,hi.2.2⟩
 obtain ⟨F,ho,hF,hs⟩:=h.opn hk;obtain ⟨v',w',hrun,hown',hgr,hnil,hb⟩:=run_append_own_at (P:=P) w 0 t ty e i z size bytes ht hi hz hs1 hb1 hzs hsz _ n xs ho.1 a m c1 news hl hnews h1 h63 hbytes (Qy _);rw[hrun,Zb2];have hc:Chg F w w':=⟨hgr.os,hgr.tape,hgr.output,hgr.size,λ j hj hF=>hgr.block j hj λ e=>hF (ho.2 j e.symm)⟩;have hfin:∀a' cap,v' = .slice a' (n+m) cap->(0<m->∃g,a'=some ⟨g,0,none⟩)->K v' w':=by
  rintro a' cap rfl hm;refine hK a' cap w' (hs w' _ hc ⟨hown',λ j hj=>?_⟩) hm;rcases hb with hb|hb
  ·exact Or.inl (ho.2 j (hb ▸ hj))
  ·rw[hb]at hj;injection hj with hj;have:=(Zfe hown' (k:=j) (by rw[hb,hj])).2;exact Or.inr ⟨by omega,this⟩
 rcases hown'.2 with ⟨h1,h2⟩|⟨g,cap,cur,h1,_⟩
 ·exact hfin none 0 (by rw[h1,h2]) λ h=>by omega
 ·exact hfin _ cap h1 λ _=>⟨g,rfl⟩
theorem St.append1 {P:Program}{X:Pan}{K:Value->World->Prop}(h:St G W w L)(k:Nat){t ty e:TypeId}{z:Value}{size bytes:Nat}{a0:Option Addr}{n c:Nat}{xs:List Value}(hk:L[k]?=some (rowC e size a0 n c xs))
  (ht:P.underlying t=some (.slice e)) (hi:(P.info? e).map (λ i=>(i.zero,i.size,i.bytes))=some (some z,size,bytes)) (hzs:z.cells.size=size) (hsz:0<size)
  {c1:Nat} {news:List Value} (hl:news.length=size) (h1:∀u∈news,u.oneCell'=true)
  (h63:n+1<=maxLen) (hbytes:(n+1)*bytes<=Zaf)
  (hK:∀g cap w',St G W w' (L.set k (rowC e size (some ⟨g,0,none⟩) (n+1) cap (xs++news)))->K (.slice (some ⟨g,0,none⟩) (n+1) cap) w') :
  RES X ((Builtin.append_ #[t,t] ty #[.slice a0 n c,.slice (some ⟨w.heap.size,0,none⟩) 1 c1]).run P (w.alloc (.cells news.toArray e))) K:=by
 have hc1:Chg noB w (w.alloc (.cells news.toArray e)):=(Chg.refl _ _).alloc _;refine (h.old hc1).appendN k hk ht hi hzs hsz (by omega) (Zdj w news e rfl) h1 h63 hbytes λ a' cap w' h' hm=>?_;obtain ⟨g,rfl⟩:=hm (by omega);exact hK g cap w' h'
theorem St.append1d {P:Program}{X:Pan}{K:Value->World->Prop}(h:St G W w L)(k:Nat){t ty e:TypeId}{z:Value}{size bytes:Nat}{a0:Option Addr}{n c:Nat}{xs:List Value}(hk:L[k]?=some (rowC e size a0 n c xs))
  (ht:P.underlying t=some (.slice e)) (hi:(P.info? e).map (λ i=>(i.zero,i.size,i.bytes))=some (some z,size,bytes)) (hzs:z.cells.size=size) (hsz:0<size)
  {c1:Nat} {news:List Value} (hl:news.length=size) (h1:∀u∈news,u.oneCell'=true)
  (h63:n+1<=maxLen) (hbytes:(n+1)*bytes<=Zaf)
  (hK:∀g cap w',St G W w' (L.set k (rowC e size (some ⟨g,0,none⟩) (n+1) cap (xs++news)))->K (.slice (some ⟨g,0,none⟩) (n+1) cap) w') :
  RES X ((Builtin.append_ #[t,t] ty #[.slice a0 n c,.slice (some ⟨w.heap.size,0,none⟩) 1 c1]).run P (w.alloc (.cells news.toArray e)).drew) K:=by
 have hc1:Chg noB w (w.alloc (.cells news.toArray e)).drew:=((Chg.refl _ _).alloc _).drew;refine (h.old hc1).appendN k hk ht hi hzs hsz (by omega) (λ j u hj=>(Zdj w news e rfl j u hj)) h1 h63 hbytes λ a' cap w' h' hm=>?_;obtain ⟨g,rfl⟩:=hm (by omega);exact hK g cap w' h'
open Classical in
theorem St.mapSet {P:Program}{κ:Type}{Y:KeyT κ}{t kt e:TypeId}(M:Zl0 P Y t kt e)(h:St G W w L)(k:Nat){b n:Nat}{f:κ->Int}(hk:L[k]?=some (mapC P Y kt e (.map (some b)) n f))(a:κ)(ha:Y.good a)(hn:n<maxLen){x:Int}(hx:Zdf x)(hx0:x≠0) :
  ∃w',(Instr.mapUpdate t (.map (some b)) (Y.val a) (.int .i64 x)).run P w = .ok () w'/\St G W w' (L.set k (mapC P Y kt e (.map (some b)) (if f a=0 then n+1 else n) (λ c=>if c=a then x else f c))):=by
 obtain ⟨F,ho,hF,hs⟩:=h.opn hk;obtain ⟨w',hrun,hm,hg⟩:=ho.1.update M a ha hn hx hx0;exact ⟨w',hrun,hs w' _ ⟨hg.os,hg.tape,hg.output,hg.size,λ j hj hF=>hg.block j hj λ e=>hF (ho.2 j (by injection e with e;rw[e]))⟩ ⟨hm,λ i hi=>Or.inl (ho.2 i hi)⟩⟩
theorem St.mapPut {P:Program}{κ:Type}{Y:KeyT κ}{t kt e:TypeId}(M:Zl0 P Y t kt e)(h:St G W w L)(k:Nat){b n:Nat}{f:κ->Int}(hk:L[k]?=some (mapC P Y kt e (.map (some b)) n f))(a:κ)(ha:Y.good a)(hn:n<maxLen){x:Int}(hx:Zdf x)(hx0:x≠0)
  (n':Nat) (f':κ->Int) (h1:f a=0->n'=n+1) (h2:f a≠0->n'=n) (h3:f' a=x) (h4:∀c,c≠a->f' c=f c) :
  ∃w',(Instr.mapUpdate t (.map (some b)) (Y.val a) (.int .i64 x)).run P w = .ok () w'/\St G W w' (L.set k (mapC P Y kt e (.map (some b)) n' f')):=by
 obtain ⟨w',hrun,hst⟩:=h.mapSet M k hk a ha hn hx hx0;refine ⟨w',hrun,?_⟩;have e1:(if f a=0 then n+1 else n)=n':=by
  by_cases h0:f a=0
  ·rw[if_pos h0,h1 h0]
  ·rw[if_neg h0,h2 h0]
 have e2:(λ c=>@ite Int (c=a) (Classical.propDecidable _) x (f c))=f':=by
  funext c;by_cases hc:c=a
  ·rw[if_pos hc,hc,h3]
  ·rw[if_neg hc,h4 c hc]
 rw[<-e1,<-e2];exact hst
theorem St.mapGet {P:Program}{κ:Type}{Y:KeyT κ}{t kt e:TypeId}(M:Zl0 P Y t kt e)(h:St G W w L)(k:Nat){v:Value}{n:Nat}{f:κ->Int}(hk:L[k]?=some (mapC P Y kt e v n f))(a:κ)(ha:Y.good a):(Instr.lookup t v (Y.val a) false).run P w = .ok (.int .i64 (f a)) w:=by
 obtain ⟨F,ho,_⟩:=h.get hk;exact ho.1.lookup M a ha
end
theorem Zg9 {α:Type}{enc:α->List Value}{size:Nat}:∀{l:List α} {i:Nat} {x:α},(∀x∈l,(enc x).length=size)->l[i]?=some x->∀{j:Nat},j<size->(l.flatMap enc)[i*size+j]?=(enc x)[j]?
 | [],_,_,_,h,_,_=>by simp at h
 | y::l,0,x,hs,h,j,hj=>by
  simp at h;subst h
  rw[Qan,Nat.zero_mul,Qa3,Qf (by rw[hs y (by simp)];exact hj)]
 | y::l,i+1,x,hs,h,j,hj=>by
  rw[Qan,Qi (by rw[hs y (by simp),Qbw];omega),hs y (by simp),Qbw,show i*size+size+j-size=i*size+j by omega]
  exact Zg9 (λ z hz=>hs z (by simp[hz])) (by simpa using h) hj
theorem Zck {α:Type}{enc:α->List Value}{w:World}{e:TypeId}{size:Nat}{a:Option Addr}{n c:Nat}{l:List α}{F:Nat->Prop}(h:(rowC e size a n c (l.flatMap enc)).ok w F)(hsz:∀x∈l,(enc x).length=size)(hpos:0<size){i:Nat}{x:α}(hi:l[i]?=some x) :
  ∃g,a=some ⟨g,0,none⟩/\(∀j u,(enc x)[j]?=some u->w.cell? ⟨g,i*size+j,none⟩=some u)/\(∀j,w.frozen? ⟨g,j,none⟩=false)/\F g/\g<w.heap.size:=by
 have hlt:∀j,j<size->i*size+j<(l.flatMap enc).length:=λ j hj=>by
  have h1:=Zg9 hsz hi hj;have h2:(enc x)[j]?=some ((enc x)[j]'(by rw[hsz x (Qe hi)];exact hj)):=Qb _;rw[h2]at h1;exact (Qa.1 h1).1
 obtain ⟨g,e1,_,_,hF,hg⟩:=Zra h (hlt 0 hpos);subst e1;refine ⟨g,rfl,λ j u hj=>?_,λ j=>?_,hF,hg⟩
 ·have hjl:j<size:=by have:=(Qa.1 hj).1;rwa [hsz x (Qe hi)]at this
  obtain ⟨g',e2,hc,_⟩:=Zra h (hlt j hjl);injection e2 with e2;injection e2 with e2;subst e2;rw[hc,<-Qb (hlt j hjl),Zg9 hsz hi hjl];exact hj
 ·rcases h.1.2 with ⟨h1,h2⟩|⟨g',cap,cur,hv,hb,hg',hn,hm,hs,ht⟩
  ·cases h1
  ·injection hv with hv;injection hv with hv;injection hv with hv;subst hv;simp[World.frozen?,hg']
theorem fold2 (a b c d:Value):Array.foldl (λ (cs:Array Value) (x:Value×Nat)=>cs.setIfInBounds x.snd x.fst) #[a,b] (Value.agg #[c,d]).cells.zipIdx 0 2=#[c,d]:=rfl
theorem fold3 (a b c d e f:Value):Array.foldl (λ (cs:Array Value) (x:Value×Nat)=>cs.setIfInBounds x.snd x.fst) #[a,b,c] (Value.agg #[d,e,f]).cells.zipIdx 0 3=#[d,e,f]:=rfl
theorem fold4 (a b c d e f g h:Value):Array.foldl (λ (cs:Array Value) (x:Value×Nat)=>cs.setIfInBounds x.snd x.fst) #[a,b,c,d] (Value.agg #[e,f,g,h]).cells.zipIdx 0 4=#[e,f,g,h]:=rfl
theorem fold1 (A:Array Value)(v:Value):Array.foldl (λ (cs:Array Value) (x:Value×Nat)=>cs.setIfInBounds x.snd x.fst) A #[v].zipIdx 0 1=A.setIfInBounds 0 v:=rfl
theorem ZZ147 (A:Array Value)(k:Nat)(v:Value):Array.foldl (λ (cs:Array Value) (x:Value×Nat)=>cs.setIfInBounds (k+x.snd) x.fst) A #[v].zipIdx 0 1=A.setIfInBounds k v:=rfl
section
variable (a:Option Addr) (n c:Nat) (k:IntKind) (x:Int) (s:ByteArray) (b:Bool) (m:Option Nat)
theorem Zpv:(Value.slice a n c).cells=#[.slice a n c]:=rfl
theorem Zwf:(Value.int k x).cells=#[.int k x]:=rfl
theorem Znm:(Value.string s).cells=#[.string s]:=rfl
theorem Zru:(Value.bool b).cells=#[.bool b]:=rfl
theorem Zt9:(Value.map m).cells=#[.map m]:=rfl
theorem Zlx:(Value.pointer a).cells=#[.pointer a]:=rfl
theorem Zm8 (z:Value):Array.foldl (λ (cs:Array Value) (x:Value×Nat)=>cs.setIfInBounds x.snd x.fst) #[z] (Value.string s).cells.zipIdx 0 1=#[(Value.string s)]:=rfl
theorem Zvt (z:Value):Array.foldl (λ (cs:Array Value) (x:Value×Nat)=>cs.setIfInBounds x.snd x.fst) #[z] (Value.int k x).cells.zipIdx 0 1=#[(Value.int k x)]:=rfl
theorem Zpo (z:Value):Array.foldl (λ (cs:Array Value) (x:Value×Nat)=>cs.setIfInBounds x.snd x.fst) #[z] (Value.slice a n c).cells.zipIdx 0 1=#[(Value.slice a n c)]:=rfl
theorem Zr8 (z:Value):Array.foldl (λ (cs:Array Value) (x:Value×Nat)=>cs.setIfInBounds x.snd x.fst) #[z] (Value.bool b).cells.zipIdx 0 1=#[(Value.bool b)]:=rfl
end
attribute [go_sem] Zm8 Zvt Zpo Zr8
attribute [go_sem] fold1 ZZ147 Zpv Zwf Znm Zru Zt9 Zlx
attribute [go_sem] fold2 fold3 fold4
def Bit (ws:List Nat)(n:Nat):Bool:=(ws.getD (n / 64) 0).testBit (n % 64)
def memb (ws:List Nat):List Nat:=(List.range (64*ws.length)).filter (Bit ws)
theorem Zhu {ws:List Nat}{n:Nat}:n∈memb ws↔Bit ws n=true:=by
 unfold memb;rw[Qz,Qbg];refine ⟨λ h=>h.2,λ h=>⟨?_,h⟩⟩;refine Qv λ hlt=>?_;unfold Bit at h;rw[Qc,Qx (by omega)]at h;simp at h
theorem Zqj (ws:List Nat):(memb ws).Pairwise (· < ·):=Qct _ Qb9
theorem Ztm {w:Nat}(h0:w≠0)(h:w<2 ^ 64):Lib.ctz 64 w<64/\w.testBit (Lib.ctz 64 w)=true/\(∀j,j<Lib.ctz 64 w->w.testBit j=false)/\(∀j,(w &&& (w-1)).testBit j=(w.testBit j && decide (j≠Lib.ctz 64 w)))/\(w &&& (w-1))<w:=by
 obtain ⟨m,hm,hc⟩:=Lib.ctzFrom_spec 64 w (by omega) h;have e:Lib.ctz 64 w=Lib.ctzFrom 64 w:=by unfold Lib.ctz;rw[if_neg h0]
 rw[e];generalize Lib.ctzFrom 64 w=c at hm hc;have hw:∀j,w.testBit j=(decide (c<=j) && (2*m+1).testBit (j-c)):=λ j=>by rw[hm,Nat.testBit_two_pow_mul]
 have hpos:0<2 ^ c:=Nat.two_pow_pos c;have hw1:w-1=2 ^ c*(2*m)+(2 ^ c-1):=by
  rw[hm,Nat.mul_add,Qb7];omega
 have hb1:∀j,(w-1).testBit j=if j<c then true else (2*m).testBit (j-c):=λ j=>by
  rw[hw1,Nat.testBit_two_pow_mul_add _ (by omega)];split
  ·rw[Nat.testBit_two_pow_sub_one];simpa using ‹j<c›
  ·rfl
 have hand:∀j,(w &&& (w-1)).testBit j=(w.testBit j && decide (j≠c)):=λ j=>by
  rw[Nat.testBit_and,hw,hb1];rcases Qdk j c with h1|rfl|h1
  ·rw[decide_eq_false (by omega)];rfl
  ·simp[Nat.testBit_zero]
  ·rw[if_neg (by omega),decide_eq_true (show c<=j by omega),decide_eq_true (show j≠c by omega)];obtain ⟨k,hk⟩:∃k,j-c=k+1:=⟨j-c-1,by omega⟩;rw[hk,Nat.testBit_succ,Nat.testBit_succ,show (2*m+1) / 2=m by omega,show 2*m / 2=m by omega];simp
 have hcc:w.testBit c=true:=by rw[hw];simp[Nat.testBit_zero]
 refine ⟨hc,hcc,λ j hj=>by rw[hw,decide_eq_false (by omega)];rfl,hand,?_⟩;have hle:w &&& (w-1)<=w:=Nat.and_le_left;refine Nat.lt_of_le_of_ne hle λ e=>?_;have:=hand c;rw[e,hcc]at this;simp at this
theorem Zsw {w:Nat}(h0:w≠0)(h:w<2 ^ 64):(List.range 64).filter (λ j=>w.testBit j)=Lib.ctz 64 w::(List.range 64).filter (λ j=>(w &&& (w-1)).testBit j):=by
 obtain ⟨h1,h2,h3,h4,_⟩:=Ztm h0 h;generalize Lib.ctz 64 w=c at h1 h2 h3 h4;have e1:(List.range 64).filter (λ j=>(w &&& (w-1)).testBit j)=((List.range 64).filter (λ j=>w.testBit j)).filter (λ j=>decide (j≠c)):=by
  rw[List.filter_filter];refine Qc2 λ j _=>?_;rw[h4,Bool.and_comm]
 rw[e1];have hs:((List.range 64).filter (λ j=>w.testBit j)).Pairwise (· < ·):=Qct _ Qb9;have hm:c∈(List.range 64).filter (λ j=>w.testBit j):=Qz.2 ⟨by simpa using h1,h2⟩;have hlow:∀x∈(List.range 64).filter (λ j=>w.testBit j),c<=x:=λ x hx=>by
  have:=(Qz.1 hx).2;refine Qv λ hlt=>?_;rw[h3 x (by omega)]at this;cases this
 generalize (List.range 64).filter (λ j=>w.testBit j)=l at hs hm hlow
 cases l with
 | nil=>cases hm
 | cons a l=>
  rw[Qcc]at hs;have ea:a=c:=by
   rcases Qaa.1 hm with rfl|hm
   ·rfl
   ·have:=hs.1 c hm;have:=hlow a (by simp);omega
  subst ea;rw[Qat (by simp),Qbi.2 λ x hx=>by
   have:=hs.1 x hx
   simp;omega]
def wmem (i w:Nat):List Nat:=((List.range 64).filter (λ j=>w.testBit j)).map (64*i+·)
theorem Zv2 (i:Nat):wmem i 0=[]:=by
 unfold wmem;rw[Qbf.2 (by simp)];rfl
theorem Zx0 (i:Nat){w:Nat}(h0:w≠0)(h:w<2 ^ 64):wmem i w=(64*i+Lib.ctz 64 w)::wmem i (w &&& (w-1)):=by
 unfold wmem;rw[Zsw h0 h];rfl
theorem Zjv (ws:List Nat):∀k,k<=ws.length->memb (ws.take k)=(List.range (64*k)).filter (Bit ws):=by
 intro k hk;unfold memb;rw[Q6,Qb8 hk];refine Qc2 λ n hn=>?_;rw[Qbg]at hn;unfold Bit;rw[Qc,Qc,Qbz (by omega)]
theorem Zwc (ws:List Nat)(k w:Nat)(hw:ws[k]?=some w):memb (ws.take (k+1))=memb (ws.take k)++wmem k w:=by
 have hk:=(Qa.1 hw).1;rw[Zjv _ _ (by omega),Zjv _ _ (by omega)];have:List.range (64*(k+1))=List.range (64*k)++(List.range 64).map (64*k+·):=by
  rw[show 64*(k+1)=64*k+64 by omega,List.range_add]
 rw[this,Qae];congr 1;unfold wmem;rw[List.filter_map];congr 1;refine Qc2 λ j hj=>?_;rw[Qbg]at hj;simp only[Function.comp,Bit];rw[show (64*k+j) / 64=k by omega,show (64*k+j) % 64=j by omega,Qc,hw];rfl
theorem Zu0 {ws:List Nat}{n w:Nat}(hw:ws[n / 64]?=some w)(m:Nat):Bit (ws.set (n / 64) (w ||| 1 <<< (n % 64))) m=(Bit ws m || decide (m=n)):=by
 have hk:=(Qa.1 hw).1;unfold Bit;rw[Qc,Qc];by_cases e:n / 64=m / 64
 ·rw[<-e,Qn hk,hw];simp only[Qb0,Nat.testBit_or];congr 1;rw[Qc6,Qcr,Nat.testBit_two_pow];by_cases e2:m=n
  ·subst e2;simp
  ·rw[decide_eq_false e2,decide_eq_false (by omega)]
 ·rw[Qs e,decide_eq_false (by rintro rfl;exact e rfl),Qdc]
theorem Zhs (k n:Nat):Bit (List.replicate k 0) n=false:=by
 unfold Bit;rw[Qc,Qa4];split<;>simp
def Zgm (ws:List Nat)(n:Nat):Nat:=((List.range n).filter λ j=> !Bit ws j).length
theorem Zl9 (ws:List Nat)(n:Nat):Zgm ws n<=n:=by
 unfold Zgm;have:=Qah (λ j=> !Bit ws j) (List.range n);simpa using this
theorem Zrv {l:List Nat}{p q:Nat->Bool}{n:Nat}(hn:l.Nodup)(hm:n∈l)(hp:p n=true)(hq:∀j,q j=(p j && decide (j≠n))):(l.filter q).length+1=(l.filter p).length:=by
 induction l with
 | nil=>cases hm
 | cons a l ih=>
  rw[Qcg]at hn;by_cases e:a=n
  ·subst e;rw[Qat (by rw[hq];simp),Qaz hp];have:l.filter q=l.filter p:=Qc2 λ j hj=>by
    have:j≠a:=λ e=>hn.1 (e ▸ hj);rw[hq,decide_eq_true this,Bool.and_true]
   rw[this];rfl
  ·have hm':n∈l:=by rcases Qaa.1 hm with h | h;exact absurd h.symm e;exact h
   have:=ih hn.2 hm';have hqa:q a=p a:=by rw[hq,decide_eq_true e,Bool.and_true]
   cases hpa:p a with
   | true=>rw[Qaz (by rw[hqa,hpa]),Qaz hpa];simp only[Qb1];omega
   | false=>rw[Qat (by rw[hqa,hpa];simp),Qat (by rw[hpa];simp)];exact this
theorem Zws {ws ws':List Nat}{n size:Nat}(hn:n<size)(hb:Bit ws n=false)(h:∀m,Bit ws' m=(Bit ws m || decide (m=n))):Zgm ws' size+1=Zgm ws size:=by
 unfold Zgm;refine Zrv Qc7 (by simpa using hn) (by rw[hb];rfl) λ j=>?_;rw[h];by_cases e:j=n
 ·subst e;simp
 ·simp[e]
structure Zib (size:Nat)(ws:List Nat):Prop where
 len:ws.length=(size+63) / 64
 lt:∀x∈ws,x<2 ^ 64
 sz:∀n,Bit ws n=true->n<size
theorem Zib.at {size:Nat}{ws:List Nat}(h:Zib size ws){n:Nat}(hn:n<size):∃x,ws[n / 64]?=some x/\x<2 ^ 64/\n / 64<ws.length/\Bit ws n=x.testBit (n % 64):=by
 have hl:n / 64<ws.length:=by rw[h.len];omega
 refine ⟨_,Qb hl,h.lt _ (Qj hl),hl,?_⟩;unfold Bit;rw[Qc,Qb hl];rfl
theorem Zib.put {size:Nat}{ws:List Nat}(h:Zib size ws){n x:Nat}(hn:n<size)(hx:ws[n / 64]?=some x):Zib size (ws.set (n / 64) (x ||| 1 <<< (n % 64))):=by
 refine ⟨by simpa using h.len,λ y hy=>?_,λ m hm=>?_⟩
 ·rcases Qcv hy with hy|rfl
  ·exact h.lt y hy
  ·refine Nat.or_lt_two_pow (h.lt _ (Qe hx)) ?_;rw[Qc6,Qcr];exact Nat.pow_lt_pow_right (by decide) (Nat.mod_lt _ (by decide))
 ·rw[Zu0 hx]at hm
  cases hb:Bit ws m with
  | true=>exact h.sz m hb
  | false=>rw[hb]at hm;simp at hm;omega
theorem Zib.new (size:Nat):Zib size (List.replicate ((size+63) / 64) 0):=⟨by simp,λ x hx=>by rw[Qa0 hx];decide,λ n hn=>by rw[Zhs]at hn;cases hn⟩
abbrev Txt:=List UInt8
def BA (l:Txt):ByteArray:=⟨l.toArray⟩
def tx (s:ByteArray):Txt:=s.data.toList
theorem tx_BA (l:Txt):tx (BA l)=l:=by simp[BA,tx]
theorem ZZ85 (l:Txt):(BA l).size=l.length:=by simp[BA,ByteArray.size]
theorem Zwj {a b:Txt}(h:BA a=BA b):a=b:=by rw[<-tx_BA a,<-tx_BA b,h]
def byC (l:Txt):List Value:=l.map λ b=> .int .u8 b.toNat
theorem ZZ40 (l:Txt):(byC l).length=l.length:=by simp[byC]
theorem Zr0 (a b:Txt):byC (a++b)=byC a++byC b:=by simp[byC]
def txtM (m:Bool)(e:TypeId)(a:Option Addr)(n c:Nat)(l:Txt):Ch where
 ok w F:=n=l.length/\((a=none/\n=0/\c=0)\/∃g cur fz,a=some ⟨g,0,none⟩/\F g/\w.heap[g]?=some (.cells cur e fz)/\(fz.2<=n\/(m=true/\cur.size<=fz.1))/\n<=c/\c<=maxLen/\cur.size=c/\cur.toList.take n=byC l)
 keep h hc hX hF:=by
  refine ⟨h.1,h.2.imp id ?_⟩
  rintro ⟨g,cur,fz,ha,hg,hw,r⟩
  have hlt:=(Qw.1 hw).1
  exact ⟨g,cur,fz,ha,hF g hlt hg,(hc.block g hlt (hX g hlt hg)).trans hw,r⟩
abbrev txtC:=txtM false
section
variable {G:Nat->Prop} {W w w':World} {L L':List Ch} {m:Bool}
theorem Zwp {e:TypeId}{g n:Nat}{l:Txt}{cur:Array Value}{fz:Nat×Nat}(hw:w.heap[g]?=some (.cells cur e fz))(ht:cur.toList.take n=byC l):∀j u,(byC l)[j]?=some u->w.cell? ((⟨g,0,none⟩:Addr).add j)=some u:=by
 intro j u hu;rw[Addr.add_lit,Qa3];simp only[World.cell?,hw];rw[<-ht,Qbm]at hu;split at hu
 ·simpa using hu
 ·cases hu
theorem St.txtConv {P:Program}(h:St G W w L)(k:Nat){t u e:TypeId}{a:Option Addr}{n c:Nat}{l:Txt}(hk:L[k]?=some (txtM m e a n c l))(ht:P.underlying t=some (.slice e))(he:P.underlying e=some (.int .u8))(hu:P.underlying u=some .string) :
  (convert t u (.slice a n c)).run P w = .ok (.string (BA l)) w:=by
 obtain ⟨F,ho,_⟩:=h.get hk;have hn:=ho.1;subst hn;rcases ho.2 with ⟨rfl,h0,rfl⟩|⟨g,cur,fz,rfl,hFg,hg,hfz,hnc,hcm,hcs,htake⟩
 ·have:l=[]:=Qcl.1 h0;subst this;rw[run_convert_bytes_string w t u e none _ _ ht he hu];rfl
 ·refine run_convert_bytes_back w t u e ⟨g,0,none⟩ c l ht he hu λ j hj=>?_;exact Zwp hg htake j _ (by simp[byC,hj])
end
open Classical in
theorem St.one {F:Nat->Prop}{w:World}{c:Ch}(h:c.ok w F):St F w w [c]:=St.enter ⟨λ i=>if F i/\i<w.heap.size then 1 else 0,λ i hi=>by
  by_cases e:F i/\i<w.heap.size
  ·exact e
  ·dsimp only at hi;rw[if_neg e]at hi;exact absurd rfl hi,λ k d hk=>by
  match k,hk with
  | 0,hk=>injection hk with hk;subst hk;exact c.keep h (Chg.refl noB _) (λ _ _ _=>id) λ i h1 h2=>by simp[h1,h2]
  | k+1,hk=>simp at hk⟩
section
variable {G:Nat->Prop} {W w w1:World} {L:List Ch}
end
section
variable {G:Nat->Prop} {W w:World} {L:List Ch}
theorem Zdv {α:Type}{enc:α->List Value}{size:Nat}:∀l:List α,(∀x∈l,(enc x).length=size)->(l.flatMap enc).length=l.length*size
 | [],_=>by simp
 | x::t,h=>by rw[Qan,Qq,h x (by simp),Zdv t λ y hy=>h y (by simp[hy]),Qb1,Qbw];omega
theorem St.appendRd {α:Type}{r:Rep α}{enc:α->List Value}{P:Program}{X:Pan}{K:Value->World->Prop}(h:St G W w L)(k:Nat){t ty e:TypeId}{z:Value}{bytes:Nat}{a0:Option Addr}{n c:Nat}{xs:List Value}(hk:L[k]?=some (rowC e r.size a0 n c xs))
  (ht:P.underlying t=some (.slice e)) (hi:(P.info? e).map (λ i=>(i.zero,i.size,i.bytes))=some (some z,r.size,bytes)) (hzs:z.cells.size=r.size) (hsz:0<r.size)
  {A:Option Addr} {c1 B:Nat} {l:List α} (hr:(Zq r).at1 w B (.slice A l.length c1) l) (henc:∀{ys x},r.ok w B ys x->x∈l->ys=enc x) (hone:∀x∈l,∀u∈enc x,u.oneCell'=true) (hlen:∀x∈l,(enc x).length=r.size)
  (h63:n+l.length<=maxLen) (hbytes:(n+l.length)*bytes<=Zaf)
  (hK:∀a' cap w',St G W w' (L.set k (rowC e r.size a' (n+l.length) cap (xs++l.flatMap enc)))->K (.slice a' (n+l.length) cap) w') :
  RES X ((Builtin.append_ #[t,t] ty #[.slice a0 n c,.slice A l.length c1]).run P w) K:=by
 cases A with
 | none=>
  have hl:l=[]:=by
   obtain ⟨A',c',hv,h1,h2,h3,h4⟩:=hr;rcases Qcd l.length with h0|h0
   ·exact Qal h0
   ·obtain ⟨b,o,e,_⟩:=h4 h0;injection hv with hv;injection hv with hA;rw[e]at hA;cases hA
  subst hl;obtain ⟨i,hi',hz,hs1,hb1⟩:∃i,P.info? e=some i/\i.zero=some z/\i.size=r.size/\i.bytes=bytes:=by
   cases hq:P.info? e with
   | none=>rw[hq]at hi;cases hi
   | some i=>rw[hq]at hi;simp at hi;exact ⟨i,rfl,hi.1,hi.2.1,hi.2.2⟩
  obtain ⟨F,ho,_⟩:=h.get hk;have hrun:(Builtin.append_ #[t,t] ty #[.slice a0 n c,.slice none 0 c1]).run P w = .ok (.slice a0 n c) w:=by
   rcases ho.1.2 with ⟨h1,rfl⟩|⟨g,cap,cur,h1,_,_,hnc,_⟩
   ·injection h1 with h1 h2 h3;subst h1 h3;simp[Builtin.append_,run_underlying ht,sizeOf,typeInfo,hi',Builtin.lenOf,Builtin.firstCells]
   ·injection h1 with h1 h2 h3;subst h1 h3;simp[Builtin.append_,run_underlying ht,sizeOf,typeInfo,hi',Builtin.lenOf,Builtin.firstCells,hnc,storeCells]
  rw[List.length_nil,hrun,Zb2];exact hK a0 c w (h.turn hk λ F hf=>by simpa using hf)
 | some a=>
  refine h.appendN k hk ht hi hzs hsz (Zdv l hlen) (λ j u hj=>?_) (λ u hu=>?_) h63 hbytes λ a' cap w' h' _=>hK a' cap w' h'
  ·have hlen':=Zdv l hlen;have hjl:j<l.length*r.size:=by rw[<-hlen'];exact (Qa.1 hj).1
   have hi2:j / r.size<l.length:=(Nat.div_lt_iff_lt_mul hsz).2 hjl;have hm:j % r.size<r.size:=Nat.mod_lt _ hsz;have hdm:j / r.size*r.size+j % r.size=j:=by rw[Nat.mul_comm];exact Nat.div_add_mod j r.size
   obtain ⟨b',o',ys,hA,hb,hok,hc⟩:=Zek hr hi2;injection hA with hA;subst hA;have hy:=henc hok (Qj hi2);have hf:=Zg9 hlen (Qb hi2) hm;rw[hdm,hj]at hf;have:=hc (j % r.size) u (by rw[hy];exact hf.symm);rw[Addr.add_lit,show o'+j=o'+(j / r.size*r.size+j % r.size) by omega];exact this
  ·obtain ⟨x,hx,hu⟩:=Qbh.1 hu;exact hone x hx u hu
end
set_option linter.unusedSectionVars false
def qC (size:Nat)(a:Addr)(n c:Nat)(xs:List Value):Ch where
 ok w F:=xs.length=n*size/\n<=c/\c<=maxLen/\a.spot=none/\F a.block/\a.block<w.heap.size/\(∀j u,xs[j]?=some u->w.cell? ⟨a.block,a.off+j,none⟩=some u)/\(∀j,j<c*size->(w.cell? ⟨a.block,a.off+j,none⟩).isSome=true)/\∀j,w.frozen? ⟨a.block,j,none⟩=false
 keep h hc hX hF:=by
  obtain ⟨h1,h2,h3,h4,h5,h6,h7,h8,h9⟩:=h
  have hb:=hc.block _ h6 (hX _ h6 h5)
  have hce:∀o,(_:World).cell? ⟨a.block,o,none⟩=_:=λ o=>World.cell?_of_block (a:=⟨a.block,o,none⟩) hb
  refine ⟨h1,h2,h3,h4,hF _ h6 h5,Qaj h6 hc.size,λ j u hj=>by rw[hce];exact h7 j u hj,λ j hj=>by rw[hce];exact h8 j hj,λ j=>?_⟩
  have:=h9 j
  unfold World.frozen? at this |-
  rw[hb];exact this
section
variable {G:Nat->Prop} {W w:World} {L:List Ch} {size n c:Nat} {a:Addr} {xs:List Value}
theorem Znk {e:TypeId}{g:Nat}{F:Nat->Prop}(h:(rowC e size (some ⟨g,0,none⟩) n c xs).ok w F):(qC size ⟨g,0,none⟩ n c xs).ok w F:=by
 obtain ⟨hl,hnc,hcm⟩:=Zee h;rcases h.1.2 with ⟨h1,_⟩|⟨g',cap,cur,hv,hb,hg,hn,hm,hs,ht⟩
 ·cases h1
 ·injection hv with hv1 _ hv3;injection hv1 with hv1;injection hv1 with hv1;subst hv1 hv3;refine ⟨hl,hnc,hcm,rfl,h.2 _ rfl,(Qw.1 hg).1,λ j u hj=>?_,λ j hj=>?_,λ j=>by simp[World.frozen?,hg]⟩
  ·simp only[World.cell?,hg,Qa3];have h4:(cur.toList.take (n*size))[j]?=some u:=by rw[ht];exact hj
   rw[Qbm]at h4;split at h4
   ·simpa using h4
   ·cases h4
  ·simp only[World.cell?,hg,Qa3];have:j<cur.size:=by rw[hs];exact hj
   simp[this]
theorem St.qAt (h:St G W w L)(k:Nat)(hk:L[k]?=some (qC size a n c xs)):xs.length=n*size/\n<=c/\c<=maxLen/\a.spot=none/\(∀j u,xs[j]?=some u->w.cell? ⟨a.block,a.off+j,none⟩=some u):=by
 obtain ⟨F,⟨h1,h2,h3,h4,_,_,h7,_⟩,_⟩:=h.get hk;exact ⟨h1,h2,h3,h4,h7⟩
theorem St.qAppend {P:Program}{X:Pan}{K:Value->World->Prop}(h:St G W w L)(k:Nat){t ty e:TypeId}{z:Value}{bytes:Nat}(hk:L[k]?=some (qC size a n c xs))
  (ht:P.underlying t=some (.slice e)) (hi:(P.info? e).map (λ i=>(i.zero,i.size,i.bytes))=some (some z,size,bytes)) (hzs:z.cells.size=size) (hsz:0<size)
  {ad:Addr} {m c1:Nat} {news:List Value} (hl:news.length=m*size) (hnews:∀j u,news[j]?=some u->w.cell? (ad.add j)=some u) (h1:∀u∈news,u.oneCell'=true)
  (h63:n+m<=maxLen) (hbytes:(n+m)*bytes<=Zaf)
  (hK:∀a' c' w',St G W w' (L.set k (qC size a' (n+m) c' (xs++news)))->K (.slice (some a') (n+m) c') w') :
  RES X ((Builtin.append_ #[t,t] ty #[.slice (some a) n c,.slice (some ad) m c1]).run P w) K:=by
 obtain ⟨i,hi,hz,hs1,hb1⟩:∃i,P.info? e=some i/\i.zero=some z/\i.size=size/\i.bytes=bytes:=by
  cases hq:P.info? e with
  | none=>rw[hq]at hi;cases hi
  | some i=>rw[hq]at hi;simp at hi;exact ⟨i,rfl,hi.1,hi.2.1,hi.2.2⟩
 obtain ⟨F,⟨q1,q2,q3,q4,q5,q6,q7,q8,q9⟩,hF,hs⟩:=h.opn hk;obtain ⟨g,o,sp⟩:=a;simp only at q4 q5 q6 q7 q8 q9;subst q4;by_cases hroom:n+m<=c
 ·have hle:n*size+m*size<=c*size:=by rw[<-Qdt];exact Qbr _ hroom
  have hrun:=run_append_room_cells (P:=P) w t ty e i ht hi g o n c ad m c1 news (by rw[hs1];exact hl) hnews h1 hroom (λ j hj=>by rw[hs1,Qck];exact q8 _ (by omega)) (λ j hj=>q9 _);rw[hrun,Zb2,hs1];refine hK ⟨g,o,none⟩ c _ (hs _ _ ⟨World.os_setCells _ _ _ _,?_,World.output_setCells _ _ _ _,?_,λ j hj hF=>World.heap_setCells_other w g _ news hj λ e=>hF (e ▸ q5)⟩ ⟨?_,hroom,q3,rfl,Or.inl q5,?_,λ j u hj=>?_,λ j hj=>?_,λ j=>?_⟩)
  ·have:∀(vs:List Value) (o:Nat) (w:World),(w.setCells g o vs).tape=w.tape:=by
    intro vs
    induction vs with
    | nil=>intro o w;rfl
    | cons v r ih=>intro o w;rw[World.setCells,ih];simp
   exact this _ _ _
  ·have:∀(vs:List Value) (o:Nat) (w:World),(w.setCells g o vs).heap.size=w.heap.size:=by
    intro vs
    induction vs with
    | nil=>intro o w;rfl
    | cons v r ih=>intro o w;rw[World.setCells,ih];simp
   rw[this];exact Ql _
  ·rw[Qq,q1,hl,Qdt]
  ·have:∀(vs:List Value) (o:Nat) (w:World),(w.setCells g o vs).heap.size=w.heap.size:=by
    intro vs
    induction vs with
    | nil=>intro o w;rfl
    | cons v r ih=>intro o w;rw[World.setCells,ih];simp
   rw[this];exact q6
  ·by_cases hjl:j<xs.length
   ·rw[Qf hjl]at hj;rw[World.cell?_setCells_out]
    ·exact q7 j u hj
    ·intro _ _;left;show o+j<o+n*size;omega
   ·rw[Qi (by omega),q1]at hj;have hjn:=(Qa.1 hj).1;have:=World.cell?_setCells_in g news (o+n*size) w (λ j' hj'=>by rw[Qck];exact q8 _ (by omega)) (j-n*size) hjn;rw[show o+n*size+(j-n*size)=o+j by omega]at this
    show (w.setCells g (o+n*size) news).cell? ⟨g,o+j,none⟩=some u
    rw[this];rw[(Qa.1 hj).2]
  ·exact World.isSome_setCells g news _ w _ (q8 j hj)
  ·rw[World.frozen?_setCells];exact q9 j
 ·obtain ⟨v',w',hrun,hown,hgr⟩:=run_append_arg_grows (P:=P) w t ty e i z size bytes ht hi hz hs1 hb1 hzs hsz ⟨g,o,none⟩ n c xs q1 (λ j u hj=>by rw[Addr.add_lit];exact q7 j u hj) ad m c1 news hl hnews (by omega) h63 hbytes;rw[hrun,Zb2];have hc:Chg F w w':=⟨hgr.os,hgr.tape,hgr.output,hgr.size,λ j hj _=>hgr.block j hj (by simp)⟩;rcases hown.2 with ⟨h1',h2'⟩|⟨g',cap,cur,h1',hb',_⟩
  ·omega
  ·subst h1';have hlt:=(Zfe hown (k:=g') rfl).2;refine hK ⟨g',0,none⟩ cap w' (hs w' _ hc (Znk (e:=e) ⟨⟨hown.1,?_⟩,λ j hj=>?_⟩))
   ·rcases hown.2 with h|⟨g2,cap2,cur2,e1,_,e3⟩
    ·exact Or.inl h
    ·exact Or.inr ⟨g2,cap2,cur2,e1,Qy _,e3⟩
   ·injection hj with hj;subst hj;exact Or.inr ⟨hb',hlt⟩
end
set_option linter.unusedSectionVars false
def hv:Value->Option (DataW Value×List MemPlace):=λ v=>some (.held v,[])
structure Zos {κ:Type}(Y:KeyT κ)(D:DataW Value)(f:κ->Option Value):Prop where
 off:∀a,f a=none->Maps.has D (Y.lit a)=false
 on:∀a u,f a=some u->Maps.has D (Y.lit a)=true
 at':∀a z,D.atKey (Y.lit a) (.held z) = .held ((f a).getD z)
def Zdt (P:Program){κ:Type}(Y:KeyT κ)(k:TypeId)(v:Value)(n:Nat)(f:κ->Option Value):Ch where
 ok w F:=∃b,v = .map (some b)/\F b/\∃D:DataW Value,w.ownsMap P k hv b n D/\Zos Y D f
 keep h hc hX hF:=by
  obtain ⟨b,hv',hb,D,hD,r⟩:=h
  have hlt:=hD.lt
  refine ⟨b,hv',hF b hlt hb,D,?_,r⟩
  obtain ⟨es,clock,hb',h2⟩:=hD
  exact ⟨es,clock,(hc.block b hlt (hX b hlt hb)).trans hb',h2⟩
def Zmi (P:Program){κ:Type}(Y:KeyT κ)(k:TypeId)(v it:Value)(n:Nat)(f:κ->Option Value)(cnt:Nat)(left:κ->Bool):Ch where
 ok w F:=∃b r,v = .map (some b)/\it = .pointer (some ⟨r,0,none⟩)/\F b/\F r/\∃(D:DataW Value) (lf:Lit->Bool),w.ranges P k hv b r n D lf cnt/\Zos Y D f/\∀a,lf (Y.lit a)=left a
 keep h hc hX hF:=by
  obtain ⟨b,r,hv',hr',hb,hr,D,lf,hD,h3⟩:=h
  have h1:=hD.owns.lt
  have h2:=hD.lt
  refine ⟨b,r,hv',hr',hF b h1 hb,hF r h2 hr,D,lf,?_,h3⟩
  obtain ⟨es,clock,since,seen,c0,hb',F',hs,hD',hr'',rest⟩:=hD
  exact ⟨es,clock,since,seen,c0,(hc.block b h1 (hX b h1 hb)).trans hb',F',hs,hD',(hc.block r h2 (hX r h2 hr)).trans hr'',rest⟩
structure Zk1 (P:Program){κ:Type}(Y:KeyT κ)(t k e:TypeId)(z:Value):Prop where
 tm:P.underlying t=some (.map k e)
 keyed:Maps.Keyed P k
 key:∀a:κ,Y.good a->keyOf P k (Y.val a)=some (Y.lit a)
 zero:∀w,(zeroValue e).run P w = .ok z w
section
variable {G:Nat->Prop} {W w w':World} {L:List Ch} {P:Program} {κ:Type} {Y:KeyT κ} {t kt e:TypeId} {z:Value} {n:Nat} {f:κ->Option Value}
theorem Zro:Zos Y (.map []:DataW Value) (λ _=>none):=⟨λ _ _=>rfl,λ _ _ h=>(by cases h),λ _ _=>rfl⟩
theorem St.mapV (h:St G W w L)(P:Program){κ:Type}(Y:KeyT κ)(k:TypeId):St G W (w.alloc (.map #[] 0)) (L++[Zdt P Y k (.map (some w.heap.size)) 0 (λ _=>none)]):=by
 refine h.seq ⟨(Chg.refl _ _).alloc _,λ i=>if i=w.heap.size then 1 else 0,λ i hi=>?_,λ j c hj=>?_⟩
 ·by_cases e:i=w.heap.size
  ·subst e;exact ⟨λ h=>absurd h (Qbo _),by simp⟩
  ·dsimp only at hi;rw[if_neg e]at hi;exact absurd rfl hi
 ·match j,hj with
  | 0,hj=>
   injection hj with hj;subst hj;exact ⟨_,rfl,by simp,_,World.ownsMap_made w P k _,Zro⟩
  | j+1,hj=>simp at hj
theorem St.mapVGet (M:Zk1 P Y t kt e z)(h:St G W w L)(k:Nat){v:Value}(hk:L[k]?=some (Zdt P Y kt v n f))(a:κ)(ha:Y.good a) :
  (Instr.lookup t v (Y.val a) false).run P w = .ok ((f a).getD z) w:=by
 obtain ⟨F,⟨b,rfl,hb,D,hD,hs⟩,_⟩:=h.get hk;obtain ⟨v,ps,hrun,hv'⟩:=hD.lookup M.keyed M.tm (M.zero w) (R:=hv) (zd := .held z) (zp:=[]) rfl (M.key a ha);unfold hv at hv';rw[hs.at' a z]at hv';injection hv' with hv';injection hv' with hv' _;injection hv' with hv';rw[hrun,hv']
theorem St.mapVPut (M:Zk1 P Y t kt e z)(h:St G W w L)(k:Nat){v:Value}(hk:L[k]?=some (Zdt P Y kt v n f))(a:κ)(ha:Y.good a)(hn:n<maxLen)(u:Value)
  (f':κ->Option Value) (h3:f' a=some u) (h4:∀c,c≠a->f' c=f c) :
  ∃w',(Instr.mapUpdate t v (Y.val a) u).run P w = .ok () w'/\St G W w' (L.set k (Zdt P Y kt v (n+1) f')):=by
 obtain ⟨F,⟨b,rfl,hb,D,hD,hsay⟩,hF,hs⟩:=h.opn hk;obtain ⟨w',hrun,hown,hg⟩:=hD.update M.keyed M.tm hn (M.key a ha) (val:=u) (d := .held u) (ps:=[]) rfl;refine ⟨w',hrun,hs w' _ ⟨hg.os,hg.tape,hg.output,hg.size,λ j hj hF=>hg.block j hj λ e=>hF (by injection e with e;rw[e];exact hb)⟩ ⟨b,rfl,Or.inl hb,_,hown,λ c hc=>?_,λ c x hc=>?_,λ c x=>?_⟩⟩
 ·by_cases hca:c=a
  ·subst hca;rw[h3]at hc;cases hc
  ·rw[Maps.has_put_other (λ e=>hca (Y.inj e))];exact hsay.off c (by rw[<-h4 c hca];exact hc)
 ·by_cases hca:c=a
  ·subst hca;exact Maps.has_put_same hD.isMap (Y.isLit c) _
  ·rw[Maps.has_put_other (λ e=>hca (Y.inj e))];exact hsay.on c x (by rw[<-h4 c hca];exact hc)
 ·by_cases hca:c=a
  ·subst hca;rw[Maps.atKey_put_same hD.isMap (Y.isLit c),h3];rfl
  ·rw[Maps.atKey_put_other (λ e=>hca (Y.inj e)),hsay.at' c,h4 c hca]
theorem St.rngV (M:Zk1 P Y t kt e z)(h:St G W w L)(k:Nat){v:Value}(hk:L[k]?=some (Zdt P Y kt v n f)) :
  ∃it cnt w',(Instr.range t v).run P w = .ok it w'/\St G W w' (L.set k (Zmi P Y kt v it n f cnt (λ a=>(f a).isSome))):=by
 obtain ⟨F,⟨b,rfl,hb,D,hD,hsay⟩,hF,hs⟩:=h.opn hk;obtain ⟨w',hrun,hr,hg,hsz⟩:=hD.range M.keyed M.tm;refine ⟨_,_,w',hrun,hs w' _ ⟨hg.os,hg.tape,hg.output,hg.size,λ j hj hF=>hg.block j hj (by simp)⟩ ⟨b,w.heap.size,rfl,rfl,Or.inl hb,Or.inr ⟨Ql _,by omega⟩,D,_,hr,hsay,λ a=>?_⟩⟩
 cases hf:f a with
 | none=>show _=(f a).isSome;rw[hf];exact hsay.off a hf
 | some u=>show _=(f a).isSome;rw[hf];exact hsay.on a u hf
theorem St.rngNext (M:Zk1 P Y t kt e z)(h:St G W w L)(k:Nat){v it:Value}{cnt:Nat}{left:κ->Bool}(hk:L[k]?=some (Zmi P Y kt v it n f cnt left))(ty:TypeId)(inv:∀key kl,keyOf P kt key=some kl->∃a,key=Y.val a/\kl=Y.lit a/\Y.good a) :
  (cnt=0/\(∀a,left a=false)/\(Instr.next it false ty).run P w = .ok (.tuple #[.bool false]) w/\St G W w (L.set k (Zdt P Y kt v n f))) \/
  ∃a u cnt' w',left a=true/\f a=some u/\Y.good a/\cnt'<cnt/\(Instr.next it false ty).run P w = .ok (.tuple #[.bool true,Y.val a,u]) w'/\(Instr.entry it).run P w' = .ok (.tuple #[Y.val a,u]) w'/\∀left':κ->Bool,left' a=false->(∀c,c≠a->left' c=left c)->St G W w' (L.set k (Zmi P Y kt v it n f cnt' left')):=by
 obtain ⟨F,⟨b,r,rfl,rfl,hb,hr,D,lf,hD,hsay,hlf⟩,hF,hs⟩:=h.opn hk;rcases hD.next M.keyed ty with ⟨h0,h1,h2⟩|⟨key,u,kl,y,w',cnt',g1,g2,g3,g4,g5,g6,g7,g8,g9,g10⟩
 ·refine Or.inl ⟨h0,λ a=>?_,h2,hs w _ (Chg.refl _ _) ⟨b,rfl,Or.inl hb,D,hD.owns,hsay⟩⟩;rw[<-hlf a];exact h1 _
 ·obtain ⟨a,rfl,rfl,ha⟩:=inv key kl g1;refine Or.inr ⟨a,u,cnt',w',by rw[<-hlf a];exact g2,?_,ha,g7,g5,g10,λ left' e1 e2=>hs w' _ ⟨g8.os,g8.tape,g8.output,g8.size,λ j hj hF=>g8.block j hj λ e=>hF (by injection e with e;rw[e];exact hr)⟩ ⟨b,r,rfl,rfl,Or.inl hb,Or.inl hr,D,_,g6,hsay,λ c=>?_⟩⟩
  ·injection g3 with g3;have e1:=(hsay.at' a u).symm.trans (g4 _);have e2:=(hsay.at' a (.bool true)).symm.trans (g4 _);rw[<-g3]at e1 e2;injection e1 with e1;injection e2 with e2
   cases hf:f a with
   | some x=>rw[hf]at e1;simp at e1;rw[e1]
   | none=>
    rw[hf]at e2;simp at e2;have:=hsay.at' a (.bool false);rw[g4,<-g3,hf]at this;simp at this;rw[<-e2]at this;cases this
  ·by_cases hc:c=a
   ·subst hc;rw[e1,WideAt.sameKey_self (Y.isLit c)];simp
   ·rw[e2 c hc,<-hlf c];have:(Y.lit c).sameKey (Y.lit a)=false:=Maps.sameKey_ne λ e=>hc (Y.inj e);rw[this];simp
end
section
variable {G:Nat->Prop} {W w:World} {L L':List Ch}
theorem St.group (h:St G W w L):St G W w [Ch.all L]:=by
 classical
 refine ⟨h.chg,λ i=>if (i<W.heap.size->G i)/\i<w.heap.size then 1 else 0,λ i hi=>?_,λ k d hk=>?_⟩
 ·by_cases hf:(i<W.heap.size->G i)/\i<w.heap.size
  ·exact hf
  ·simp[hf]at hi
 ·match k,hk with
  | 0,hk=>
   injection hk with hk;subst hk;exact Zih.keep h.all (Chg.refl noB w) (λ _ _ _=>id) (λ i hl hi=>by show ite _ _ _=_;rw[if_pos ⟨hi,hl⟩])
  | k+1,hk=>simp at hk
theorem St.flat (h:St G W w (L++[Ch.all L'])):St G W w (L++L'):=by
 classical
 obtain ⟨hc,T,ht,hL⟩:=h;obtain ⟨T',ht',hL'⟩:=hL L.length (Ch.all L') (by simp);refine ⟨hc,λ i=>if T i=L.length+1 then (if T' i=0 then 0 else T' i+L.length) else T i,λ i hi=>?_,λ k d hk=>?_⟩
 ·by_cases e:T i=L.length+1
  ·exact ht i (by omega)
  ·dsimp only at hi;rw[if_neg e]at hi;exact ht i hi
 ·by_cases hkl:k<L.length
  ·rw[Qf hkl]at hk;refine d.keep (X:=noB) (hL k d (by rw[Qf hkl];exact hk)) (Chg.refl _ _) (λ _ _ _=>id) λ i _ e=>?_;dsimp only;rw[if_neg (by omega)];exact e
  ·rw[Qi (by omega)]at hk;refine d.keep (X:=noB) (hL' _ d hk) (Chg.refl _ _) (λ _ _ _=>id) λ i _ e=>?_;have e':T' i=k-L.length+1:=e;have:=(ht' i (by omega)).1;dsimp only;rw[if_pos this,if_neg (by omega)];omega
theorem St.unflat (h:St G W w (L++L')):St G W w (L++[Ch.all L']):=by
 classical
 obtain ⟨hc,T,ht,hL⟩:=h;refine ⟨hc,λ i=>if L.length<T i then L.length+1 else T i,λ i hi=>?_,λ k d hk=>?_⟩
 ·by_cases e:L.length<T i
  ·exact ht i (by omega)
  ·dsimp only at hi;rw[if_neg e]at hi;exact ht i hi
 ·by_cases hkl:k<L.length
  ·rw[Qf hkl]at hk;refine d.keep (X:=noB) (hL k d (by rw[Qf hkl];exact hk)) (Chg.refl _ _) (λ _ _ _=>id) λ i _ e=>?_;dsimp only;rw[if_neg (by omega)];exact e
  ·rw[Qi (by omega)]at hk;have hk0:k=L.length:=by
    have:=(Qa.1 hk).1;simp at this;omega
   subst hk0;simp at hk;subst hk;refine ⟨λ i=>if L.length<T i then T i-L.length else 0,λ i hi=>?_,λ j c hj=>?_⟩
   ·by_cases e:L.length<T i
    ·exact ⟨by dsimp only;rw[if_pos e],(ht i (by omega)).2⟩
    ·dsimp only at hi;rw[if_neg e]at hi;exact absurd rfl hi
   ·have hjl:=(Qa.1 hj).1;refine c.keep (X:=noB) (hL (L.length+j) c (by rw[Qi (by omega),Qa5];exact hj)) (Chg.refl _ _) (λ _ _ _=>id) λ i _ e=>?_;have e':T i=L.length+j+1:=e;dsimp only;rw[if_pos (by omega)];omega
end
end Go.Px
