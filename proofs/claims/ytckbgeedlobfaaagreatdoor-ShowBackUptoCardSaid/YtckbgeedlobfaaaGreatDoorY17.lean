/-
  Texts of this claim: Rk1, Rk2, Rk3, Rk4, Rf1, Rf2, Rf3, Rk5, Rk6, Rk7, Rn1, Pl1, Pl2, Pl3, Rn2, Rn3, Cp1, Mk4.
-/
import Derived.Test.YtckbgeedlobfaaaGreatDoorY16
import Derived.Test.YtckbgeedlobfaaaGreatDoorY09
import Derived.Test.YtckbgeedlobfaaaGreatDoorY11
import Derived.Test.YtckbgeedlobfaaaGreatDoorY02
import Derived.Test.YtckbgeedlobfaaaGreatDoorY15
import Derived.Test.YtckbgeedlobfaaaGreatDoorY03
import Derived.Test.YtckbgeedlobfaaaGreatDoorY12
import Derived.Test.YtckbgeedlobfaaaGreatDoorY13
set_option maxHeartbeats 1000000
set_option linter.unusedSimpArgs false
set_option linter.unusedVariables false
set_option maxRecDepth 100000
namespace Go.Px.Spec
open Go.Px Go.Px.Scan
structure Rx where
 ph:Nat
 sd:Nat
 ts:List (ByteArray×Int)
 lv:List Int
 rows:List RowS
 rl:ByteArray
 ls:List ByteArray
 st:ByteArray
def rxOf (m:Mc):Rx:=⟨m.ph,sideL m.heads,tmOf m.heads,lvOf m.heads,m.rows,m.rule,dd m.lefts,m.start⟩
def posI (ts:List (ByteArray×Int))(t:ByteArray):Int:=if posN (ts.map (·.1)) t<ts.length then posN (ts.map (·.1)) t else -1
end Go.Px.Spec
namespace Go.Proofs.YtckbgeedlobfaaaGreatDoor
open Go.Px Go.Px.Scan Go.Px.Spec Go.RowKit
attribute [-go_sem] Builtin.append_
structure TD where
 At:Option Addr
 ct:Nat
 Al:Option Addr
 cl:Nat
 Ar:Option Addr
 cr:Nat
 us:List Value
 Ax:Option Addr
 cx:Nat
 Af:Option Addr
 cf:Nat
section
variable {G:Nat→Prop} {W w:World} {L:List Ch} {tb:Nat} {x:Rx} {D:TD}
end
end Go.Proofs.YtckbgeedlobfaaaGreatDoor
namespace Go.Px.Spec
open Go.Px Go.Px.Scan
end Go.Px.Spec
namespace Go.Proofs.YtckbgeedlobfaaaGreatDoor
open Go.Px Go.Px.Scan Go.Px.Spec Go.RowKit
attribute [-go_sem] Builtin.append_
section
variable {F:Nat→Prop} {w w1:World} {R:EP} {tb:Nat} {x:Rx} {D:TD}
end
end Go.Proofs.YtckbgeedlobfaaaGreatDoor
namespace Go.Px.Spec
open Go.Px Go.Px.Scan
end Go.Px.Spec
namespace Go.Proofs.YtckbgeedlobfaaaGreatDoor
open Go.Px Go.Px.Scan Go.Px.Spec Go.RowKit
attribute [-go_sem] Builtin.append_
section
variable {F:Nat→Prop} {w w1:World} {R:EP} {tb:Nat} {x:Rx} {D:TD}
end
end Go.Proofs.YtckbgeedlobfaaaGreatDoor
namespace Go.Px.Spec
open Go.Px Go.Px.Scan
end Go.Px.Spec
namespace Go.Proofs.YtckbgeedlobfaaaGreatDoor
open Go.Px Go.Px.Scan Go.Px.Spec Go.RowKit
attribute [-go_sem] Builtin.append_
section
variable {F:Nat→Prop} {w w1:World} {R:EP} {tb:Nat} {x:Rx} {D:TD}
end
end Go.Proofs.YtckbgeedlobfaaaGreatDoor
namespace Go.Proofs.YtckbgeedlobfaaaGreatDoor
open Go.Px Go.Px.Scan Go.RowKit
end Go.Proofs.YtckbgeedlobfaaaGreatDoor
namespace Go.Proofs.YtckbgeedlobfaaaGreatDoor
open Go.Px Go.Px.Scan Go.RowKit
end Go.Proofs.YtckbgeedlobfaaaGreatDoor
namespace Go.Proofs.YtckbgeedlobfaaaGreatDoor
open Go.Px Go.Px.Scan Go.RowKit
end Go.Proofs.YtckbgeedlobfaaaGreatDoor
namespace Go.Px.Spec
open Go.Px Go.Px.Scan
end Go.Px.Spec
namespace Go.Proofs.YtckbgeedlobfaaaGreatDoor
open Go.Px Go.Px.Scan Go.Px.Spec Go.RowKit
attribute [-go_sem] Builtin.append_
section
variable {F:Nat→Prop} {w w1:World} {R:EP} {tb g:Nat} {x:Rx} {D:TD} {done:List RowS} {r:RowS}
end
end Go.Proofs.YtckbgeedlobfaaaGreatDoor
namespace Go.Px.Spec
open Go.Px Go.Px.Scan
end Go.Px.Spec
namespace Go.Proofs.YtckbgeedlobfaaaGreatDoor
open Go.Px Go.Px.Scan Go.Px.Spec Go.RowKit
attribute [-go_sem] Builtin.append_
section
variable {G F:Nat→Prop} {W w w1:World} {R:EP} {tb:Nat} {x:Rx} {D:TD} {m:Mc}
end
end Go.Proofs.YtckbgeedlobfaaaGreatDoor
namespace Go.Proofs.YtckbgeedlobfaaaGreatDoor
open Go.Px Go.Px.Scan Go.Px.Spec Go.RowKit
attribute [-go_sem] Builtin.append_
section
variable {G:Nat→Prop} {W w w1:World} {R:EP} {tb q2:Nat} {x:Rx} {D:TD} {m:Mc} {L:List Ch}
theorem bTm0 (w:World):(Instr.build 64 #[]).run Tryz.prog w = .ok (.agg #[.string ⟨#[]⟩,.int .i64 0]) w:=by simp[go_sem]
attribute [go_sem ↓] bTm0
end
end Go.Proofs.YtckbgeedlobfaaaGreatDoor
namespace Go.Px.Spec
open Go.Px Go.Px.Scan
def Zdj (ls:List ByteArray)(w:Wd):Bool:=hasB ls w.2.1 && decide (w.1=1)
def nonX (n:Nat)(ls:List ByteArray)(s:ByteArray):Int:=if posN ls s<ls.length then (n:Int)+posN ls s else -1
def symX (ts:List (ByteArray×Int))(ls:List ByteArray)(w:Wd):Int:=if Zdj ls w then nonX ts.length ls w.2.1 else posI ts w.2.1
end Go.Px.Spec
namespace Go.Proofs.YtckbgeedlobfaaaGreatDoor
open Go.Px Go.Px.Scan Go.Px.Spec Go.RowKit
attribute [-go_sem] Builtin.append_
section
variable {G:Nat→Prop} {W w w1:World} {R:EP} {tb:Nat} {x:Rx} {D:TD} {L:List Ch} {us:List Value} {c0:Ch}
end
end Go.Proofs.YtckbgeedlobfaaaGreatDoor
namespace Go.Px.Spec
open Go.Px Go.Px.Scan
def Run {α:Type}(c:Except Int α)(q:Prop)(a:α):Prop:=(q∧c = .ok a)∨(¬q∧c = .error 11)
theorem Run.bind {α β:Type}{c:Except Int α}{p q:Prop}{a:α}{f:α→Except Int β}{b:β}(h:Run c p a)(hf:p→Run (f a) q b)(hqp:q→p):Run (c >>= f) q b:=by
 rcases h with ⟨hp,rfl⟩|⟨hp,rfl⟩
 ·exact hf hp
 ·exact .inr ⟨fun hq=>hp (hqp hq),rfl⟩
theorem Run.pure {α:Type}{q:Prop}(hq:q)(a:α):Run (Except.ok a) q a := .inl ⟨hq,rfl⟩
theorem Run.cast {α:Type}{c:Except Int α}{p q:Prop}{a b:α}(h:Run c p a)(hpq:p↔q)(hab:a=b):Run c q b:=by
 subst hab
 rcases h with ⟨hp,e⟩|⟨hp,e⟩
 ·exact .inl ⟨hpq.1 hp,e⟩
 ·exact .inr ⟨fun hq=>hp (hpq.2 hq),e⟩
def Q (S:BS):Prop:=S.terms.length+S.nons.length≤64∧S.rules.length≤96
def addT (S:BS)(t:ByteArray):BS:=if hasB (S.terms.map (·.1)) t then S else {S with terms:=S.terms++[(t,0)] }
def addN (S:BS)(s:ByteArray):BS:=if hasB S.nons s then S else {S with nons:=S.nons++[s] }
theorem Zfx (S:BS)(t:ByteArray):(addT S t).terms=putT S.terms t 0:=by unfold addT putT;simp only[if_true];split<;>rfl
theorem Ziw (S:BS)(t:ByteArray):(addT S t).nons=S.nons∧(addT S t).levels=S.levels∧(addT S t).rules=S.rules∧(addT S t).start=S.start:=by unfold addT;split<;>exact ⟨rfl,rfl,rfl,rfl⟩
theorem Zk7 (S:BS)(t:ByteArray):(addN S t).terms=S.terms∧(addN S t).levels=S.levels∧(addN S t).rules=S.rules∧(addN S t).start=S.start:=by unfold addN;split<;>exact ⟨rfl,rfl,rfl,rfl⟩
theorem Zso (S:BS)(t:ByteArray):(addN S t).nons=addB S.nons t:=by unfold addN addB;split<;>rfl
theorem ZZ127 (a:List ByteArray)(x:ByteArray):a.length≤(addB a x).length:=by unfold addB;split<;>simp
theorem ZZ195 (ts:List (ByteArray×Int))(t:ByteArray)(n:Nat):ts.length≤(putT ts t n).length:=by
 have:=congrArg List.length (Zfy ts t n)
 have h:=ZZ127 (ts.map (·.1)) t
 simp only[List.length_map]at this h
 omega
theorem ZZ290 {S:BS}{t:ByteArray}(h:Q (addT S t)):Q S:=by
 obtain ⟨h1,h2⟩:=h
 have:=Ziw S t
 rw[Zfx,this.1]at h1
 rw[this.2.2.1]at h2
 have:=ZZ195 S.terms t 0
 exact ⟨by omega,h2⟩
theorem ZZ77 {l:List ByteArray}{s:ByteArray}(h:s∈l)(r:List ByteArray):posN (l++r) s=posN l s:=by
 induction l with
 | nil=>cases h
 | cons x l ih=>
  rw[List.cons_append,posN,posN]
  by_cases hx:x=s
  ·rw[if_pos hx,if_pos hx]
  ·rw[if_neg hx,if_neg hx,ih (by rcases List.mem_cons.1 h with h | h;exact absurd h.symm hx;exact h)]
theorem ZZ120 {l:List ByteArray}{s:ByteArray}(h:s∈l)(r:List ByteArray):posH (l++r) s=posH l s:=by
 unfold posH
 rw[ZZ77 h,if_pos (by have:=(Zc2 h).1;simp;omega),if_pos (Zc2 h).1]
theorem Zc3 {l:List ByteArray}{s:ByteArray}(h:s∈l):posH l s=(posN l s:Int)+1:=by unfold posH;rw[if_pos (Zc2 h).1]
theorem Zu6 {l:List ByteArray}{s:ByteArray}(h:s∉l):posH (l++[s]) s=(l.length:Int)+1:=by
 rw[Zc3 (by simp),Zmk,if_neg (by rw[Zum h];omega),if_pos rfl]
def Ext (l l':List ByteArray):Prop:=∃r,l'=l++r
theorem Ext.refl (l:List ByteArray):Ext l l:=⟨[],by simp⟩
theorem Ext.trans {a b c:List ByteArray}(h:Ext a b)(k:Ext b c):Ext a c:=by obtain ⟨r,rfl⟩:=h;obtain ⟨q,rfl⟩:=k;exact ⟨r++q,by simp⟩
theorem Ext.addB (l:List ByteArray)(x:ByteArray):Ext l (addB l x):=by unfold Spec.addB;split;exact Ext.refl l;exact ⟨[x],rfl⟩
theorem Ext.mem {l l':List ByteArray}{x:ByteArray}(h:Ext l l')(hx:x∈l):x∈l':=by obtain ⟨r,rfl⟩:=h;simp[hx]
theorem Ext.posH {l l':List ByteArray}{x:ByteArray}(h:Ext l l')(hx:x∈l):posH l' x=posH l x:=by obtain ⟨r,rfl⟩:=h;exact ZZ120 hx r
end Go.Px.Spec
namespace Go.Proofs.YtckbgeedlobfaaaGreatDoor
open Go.Px Go.Px.Scan Go.Px.Spec Go.RowKit
theorem Zp7 {S:BS}{t:ByteArray}(ht:Zec t)(hq:Q S):Run (en (Zc4 S t)) (Q (addT S t)) (posH ((addT S t).terms.map (·.1)) t,addT S t):=by
 have hb:tmB t=true:=Zhu.2 ht
 unfold Zc4
 rw[if_neg (by rw[hb];decide)]
 by_cases hm:t∈S.terms.map (·.1)
 ·have h0:posH (S.terms.map (·.1)) t≠0:=fun h=>Zf4.1 h hm
  have e:addT S t=S:=by unfold addT;rw[if_pos (Zae.2 hm)]
  rw[if_pos h0,e]
  exact .inl ⟨hq,rfl⟩
 ·have h0:¬posH (S.terms.map (·.1)) t≠0:=fun h=>h (Zf4.2 hm)
  have e:addT S t={S with terms:=S.terms++[(t,0)] }:=by unfold addT;rw[if_neg (fun h=>hm (Zae.1 h))]
  rw[if_neg h0,e]
  by_cases hs:64≤S.terms.length+S.nons.length
  ·rw[if_pos hs]
   exact .inr ⟨fun h=>by have:=h.1;simp at this;omega,rfl⟩
  ·rw[if_neg hs]
   refine .inl ⟨⟨by simp;omega,hq.2⟩,?_⟩
   show Except.ok _=Except.ok _
   rw[List.map_append,List.map_singleton,Zu6 hm,List.length_map]
theorem Ztu {S:BS}{t:ByteArray}(ht:Zfi t)(hq:Q S):Run (en (nonA S t)) (Q (addN S t)) (-posH (addN S t).nons t,addN S t):=by
 have hb:nmB t=true:=Zho.2 ht
 unfold nonA
 rw[if_neg (by rw[hb];decide)]
 by_cases hm:t∈S.nons
 ·have h0:posH S.nons t≠0:=fun h=>Zf4.1 h hm
  have e:addN S t=S:=by unfold addN;rw[if_pos (Zae.2 hm)]
  rw[if_pos h0,e]
  exact .inl ⟨hq,rfl⟩
 ·have h0:¬posH S.nons t≠0:=fun h=>h (Zf4.2 hm)
  have e:addN S t={S with nons:=S.nons++[t] }:=by unfold addN;rw[if_neg (fun h=>hm (Zae.1 h))]
  rw[if_neg h0,e]
  by_cases hs:64≤S.terms.length+S.nons.length
  ·rw[if_pos hs]
   exact .inr ⟨fun h=>by have:=h.1;simp at this;omega,rfl⟩
  ·rw[if_neg hs]
   refine .inl ⟨⟨by simp;omega,hq.2⟩,?_⟩
   show Except.ok _=Except.ok _
   rw[Zu6 hm]
end Go.Proofs.YtckbgeedlobfaaaGreatDoor
namespace Go.Px.Spec
open Go.Px Go.Px.Scan
theorem ZZ27 {ts:List ByteArray}:∀{S:BS},Q (ts.foldl addT S)→Q S:=by
 induction ts with
 | nil=>exact fun h=>h
 | cons t ts ih=>exact fun h=>ZZ290 (ih h)
theorem Zoe (ts:List ByteArray):∀S:BS,(ts.foldl addT S).terms=ts.foldl (fun u t=>putT u t 0) S.terms:=by
 induction ts with
 | nil=>exact fun _=>rfl
 | cons t ts ih=>intro S;rw[List.foldl_cons,ih,Zfx];rfl
theorem Znp (ts:List ByteArray):∀S:BS,(ts.foldl addT S).nons=S.nons∧(ts.foldl addT S).levels=S.levels∧(ts.foldl addT S).rules=S.rules∧(ts.foldl addT S).start=S.start:=by
 induction ts with
 | nil=>exact fun _=>⟨rfl,rfl,rfl,rfl⟩
 | cons t ts ih=>intro S;rw[List.foldl_cons];have h1:=ih (addT S t);have h2:=Ziw S t;rw[h1.1,h1.2.1,h1.2.2.1,h1.2.2.2];exact h2
theorem Ext.addT (S:BS)(t:ByteArray):Ext (S.terms.map (·.1)) ((addT S t).terms.map (·.1)):=by rw[Zfx,Zfy];exact Ext.addB _ _
theorem Zmd (S:BS)(t:ByteArray):t∈(addT S t).terms.map (·.1):=by rw[Zfx,Zfy];exact Zkm.2 (Or.inr rfl)
theorem Zmh (S:BS)(t:ByteArray):t∈(addN S t).nons:=by rw[Zso];exact Zkm.2 (Or.inr rfl)
theorem Ext.foldT (ts:List ByteArray):∀S:BS,Ext (S.terms.map (·.1)) ((ts.foldl Spec.addT S).terms.map (·.1)):=by
 induction ts with
 | nil=>exact fun _=>Ext.refl _
 | cons t ts ih=>exact fun S=>(Ext.addT S t).trans (ih _)
theorem Zfd (l:List ByteArray)(n:Nat):∀ts:List (ByteArray×Int),(l.foldl (fun u t=>putT u t n) ts).map (·.1)=l.foldl addB (ts.map (·.1)):=by
 induction l with
 | nil=>exact fun _=>rfl
 | cons t l ih=>intro ts;rw[List.foldl_cons,ih,Zfy];rfl
theorem ZZ178 {a b:List (ByteArray×Int)}(hn:a.map (·.1)=b.map (·.1))(hd:(a.map (·.1)).Nodup)(h:∀s,lvT a s=lvT b s):a=b:=by
 have hlen:a.length=b.length:=by have:=congrArg List.length hn;simpa using this
 refine List.ext_getElem hlen fun i h1 h2=>?_
 have e1:a[i].1=b[i].1:=by
  have:=congrArg (fun l=>l[i]?) hn
  simp only[List.getElem?_map,List.getElem?_eq_getElem h1,List.getElem?_eq_getElem h2]at this
  simpa using this
 have hp:∀(l:List (ByteArray×Int)) (hl:(l.map (·.1)).Nodup) (hi:i<l.length),posN (l.map (·.1)) l[i].1=i:=fun l hl hi=>by
  have hm:l[i].1∈l.map (·.1):=List.mem_map.2 ⟨_,List.getElem_mem hi,rfl⟩
  obtain ⟨h3,h4⟩:=Zc2 hm
  have h5:(l.map (·.1))[posN (l.map (·.1)) l[i].1]'h3=(l.map (·.1))[i]'(by simpa using hi):=by
   rw[List.getElem?_eq_getElem h3]at h4
   injection h4 with h4
   rw[h4];simp
  exact (List.getElem_inj hl).1 h5
 have e2:=h a[i].1
 have l1:lvT a a[i].1=some a[i].2:=by unfold lvT;rw[hp a hd h1,List.getElem?_eq_getElem h1];rfl
 have l2:lvT b a[i].1=some b[i].2:=by unfold lvT;rw[e1,hp b (hn ▸ hd) h2,List.getElem?_eq_getElem h2];rfl
 rw[l1,l2]at e2
 injection e2 with e2
 exact Prod.ext e1 e2
theorem Zqz (n:Nat)(hn:n≠0)(l:List ByteArray)(s:ByteArray):∀ts:List (ByteArray×Int),lvT (l.foldl (fun u t=>putT u t n) ts) s=if hasB l s then some (n:Int) else lvT ts s:=by
 induction l with
 | nil=>intro ts;rfl
 | cons t l ih=>
  intro ts
  rw[List.foldl_cons,ih,Zmt]
  by_cases h1:hasB l s=true
  ·have:hasB (t::l) s=true:=by rw[Zae]at h1 ⊢;simp[h1]
   rw[if_pos h1,if_pos this]
  ·rw[if_neg h1]
   by_cases e:s=t
   ·subst e
    rw[if_pos rfl,if_neg hn,if_pos (Zae.2 (by simp))]
   ·have:¬hasB (t::l) s=true:=fun h2=>by
     rw[Zae]at h1 h2
     rcases List.mem_cons.1 h2 with h2|h2
     ·exact e h2
     ·exact h1 h2
    rw[if_neg e,if_neg this]
theorem Zki (l:List ByteArray)(s:ByteArray):∀ts:List (ByteArray×Int),lvT (l.foldl (fun u t=>putT u t 0) ts) s=if hasB l s then some ((lvT ts s).getD 0) else lvT ts s:=by
 induction l with
 | nil=>intro ts;rfl
 | cons t l ih=>
  intro ts
  rw[List.foldl_cons,ih,Zmt]
  by_cases e:s=t
  ·subst e
   rw[if_pos rfl,if_pos rfl,if_pos (Zae.2 (List.mem_cons_self))]
   split<;>rfl
  ·have h2:hasB (t::l) s=hasB l s:=by
    rw[Bool.eq_iff_iff,Zae,Zae];simp[e]
   rw[if_neg e,h2]
theorem HOk.inv {k:List (Nat×List ByteArray)}(h:HOk k):∀{hs:List (Nat×List ByteArray)} {d:Nat} {l:List ByteArray},k=hs++[(d,l)]→HOk hs∧d≤3∧(0<d→l.Nodup∧∀t∈l,kn hs t≠2):=by
 induction h with
 | nil=>intro hs d l e;simp at e
 | @head hs' d' h hd _=>
  intro hs d l e
  have:=List.append_inj' e rfl
  simp at this
  obtain ⟨rfl,rfl,rfl⟩:=this
  exact ⟨h,hd,fun _=>⟨List.nodup_nil,by simp⟩⟩
 | @term hs' d' l' t h hc ih=>
  intro hs d l e
  have:=List.append_inj' e rfl
  simp at this
  obtain ⟨rfl,rfl,rfl⟩:=this
  obtain ⟨h1,h2,h3⟩:=ih rfl
  refine ⟨h1,h2,fun hd=>?_⟩
  obtain ⟨h4,h5⟩:=h3 hd
  have hnt:t∉l':=fun hm=>hc (Or.inl (by
   unfold kn
   rw[List.foldl_append]
   simp only[List.foldl_cons,List.foldl_nil]
   rw[if_pos (Zae.2 hm)]
   omega))
  refine ⟨List.nodup_append.2 ⟨h4,by simp,fun x hx y hy e9=>by simp at hy;subst hy;subst e9;exact hnt hx⟩,fun x hx=>?_⟩
  rcases List.mem_append.1 hx with hx|hx
  ·exact h5 x hx
  ·simp at hx;subst hx
   intro h6
   refine hc (Or.inl ?_)
   unfold kn at h6 ⊢
   rw[List.foldl_append]
   simp only[List.foldl_cons,List.foldl_nil]
   rw[if_neg (fun hb=>hnt (Zae.1 hb))]
   exact h6
def Sof (hs:List (Nat×List ByteArray)):BS:=⟨(hTl hs).1,[],(hTl hs).2,[],0⟩
theorem Zvh (hs:List (Nat×List ByteArray))(h:Nat×List ByteArray):hTl (hs++[h])=Zd1 (hTl hs) h:=by simp[hTl]
theorem ZZ372 {hs:List (Nat×List ByteArray)}(h:HOk hs)(hn:∀x∈hs,∀t∈x.2,t≠noT){s:ByteArray}(hs':s≠noT):kn hs s=knOf (lvT (hTl hs).1 s):=by
 rw[kn_lv h hn s hs']
 have:tmOf hs=(noT,0)::(hTl hs).1:=by unfold tmOf;rw[Zuw hn]
 rw[this]
 congr 1
 unfold lvT
 rw[List.map_cons,posN,if_neg (fun e=>hs' e.symm),List.getElem?_cons_succ]
end Go.Px.Spec
namespace Go.Proofs.YtckbgeedlobfaaaGreatDoor
open Go.Px Go.Px.Scan Go.Px.Spec Go.RowKit
theorem ZZ9 (ts:List ByteArray):∀(l0:List Int) (S:BS),Q S→(∀t∈ts,Zec t)→Run (ts.foldlM ZZ65 (l0,S)) (Q (ts.foldl addT S)) (l0++ts.map (posH ((ts.foldl addT S).terms.map (·.1))),ts.foldl addT S):=by
 induction ts with
 | nil=>intro l0 S hq _;exact .inl ⟨hq,by simp;rfl⟩
 | cons t ts ih=>
  intro l0 S hq hT
  rw[List.foldlM_cons,List.foldl_cons]
  refine Run.bind (a:=(l0++[posH ((addT S t).terms.map (·.1)) t],addT S t)) (Run.bind (Zp7 (hT t (by simp)) hq) (fun hp=> .inl ⟨hp,rfl⟩) id) (fun hp=>?_) ZZ27
  refine (ih _ (addT S t) hp fun x hx=>hT x (by simp[hx])).cast Iff.rfl ?_
  rw[List.map_cons,(Ext.foldT ts (addT S t)).posH (Zmd S t)]
  simp
theorem Zp8 {l:List ByteArray}{s t:ByteArray}(hs:s∈l)(ht:t∈l)(h:posH l s=posH l t):s=t:=by
 rw[Zc3 hs,Zc3 ht]at h
 exact (Zp5 hs (by omega)).symm
theorem Zz8 {S:BS}{t:ByteArray}(h:t∈S.terms.map (·.1)):lvT S.terms t=some (Zar S (posH (S.terms.map (·.1)) t)):=by
 have hl:=(Zc2 h).1
 unfold lvT Zar
 rw[Zc3 h,show ((posN (S.terms.map (·.1)) t:Int)+1-1).toNat=posN (S.terms.map (·.1)) t by omega,List.getElem?_eq_getElem (by simpa using hl)]
 rfl
theorem ZZ39 (l:List ByteArray):∀S:BS,∃r,(l.foldl addT S).terms=S.terms++r∧∀x∈r,x.2=0:=by
 induction l with
 | nil=>exact fun S=>⟨[],by simp,by simp⟩
 | cons t l ih=>
  intro S
  obtain ⟨r,h1,h2⟩:=ih (addT S t)
  rw[List.foldl_cons,h1]
  unfold addT
  split
  ·exact ⟨r,rfl,h2⟩
  ·refine ⟨(t,0)::r,by simp,fun x hx=>?_⟩
   rcases List.mem_cons.1 hx with rfl|hx
   ·rfl
   ·exact h2 x hx
theorem Znl {S S':BS}{r:List (ByteArray×Int)}(h:S'.terms=S.terms++r)(hr:∀x∈r,x.2=0)(k:Int):Zar S' k=Zar S k:=by
 unfold Zar
 rw[h]
 by_cases hl:(k-1).toNat<S.terms.length
 ·rw[List.getElem?_append_left hl]
 ·rw[List.getElem?_append_right (by omega),List.getElem?_eq_none (l:=S.terms) (by omega)]
  cases e:r[(k-1).toNat-S.terms.length]? with
  | none=>rfl
  | some x=>exact hr x (List.mem_of_getElem? e)
theorem ZZ268 {ts:List (ByteArray×Int)}(h:∀x∈ts,0≤x.2)(t:ByteArray)(n:Nat):∀x∈putT ts t n,0≤x.2:=by
 have hu:∀x∈(if hasB (ts.map (·.1)) t then ts else ts++[(t,(0:Int))]),0≤x.2:=by
  split
  ·exact h
  ·intro x hx
   rcases List.mem_append.1 hx with hx|hx
   ·exact h x hx
   ·simp at hx;subst hx;simp
 unfold putT
 simp only
 split
 ·exact hu
 ·intro x hx
  obtain ⟨i,hi⟩:=List.getElem?_of_mem hx
  rw[List.getElem?_modify]at hi
  generalize hq:(if hasB (ts.map (·.1)) t then ts else ts++[(t,(0:Int))])=us at *
  cases e:us[i]? with
  | none=>rw[e]at hi;simp at hi
  | some y=>
   rw[e]at hi
   simp at hi
   split at hi
   ·subst hi;simp
   ·subst hi;exact hu y (List.mem_of_getElem? e)
theorem Zl7 (hs:List (Nat×List ByteArray)):(∀x∈(hTl hs).1,0≤x.2)∧((hTl hs).1.map (·.1)).Nodup:=by
 have h1:∀(l:List ByteArray) (n:Nat) (ts:List (ByteArray×Int)),(∀x∈ts,0≤x.2)∧(ts.map (·.1)).Nodup→(∀x∈l.foldl (fun u t=>putT u t n) ts,0≤x.2)∧((l.foldl (fun u t=>putT u t n) ts).map (·.1)).Nodup:=fun l n=>by
  induction l with
  | nil=>exact fun ts h=>h
  | cons t l ih=>exact fun ts h=>ih _ ⟨ZZ268 h.1 t n,by rw[Zfy];exact Zk3 h.2⟩
 have h2:∀(hs:List (Nat×List ByteArray)) (a:List (ByteArray×Int)×List Int),(∀x∈a.1,0≤x.2)∧(a.1.map (·.1)).Nodup→(∀x∈(hs.foldl Zd1 a).1,0≤x.2)∧((hs.foldl Zd1 a).1.map (·.1)).Nodup:=fun hs=>by
  induction hs with
  | nil=>exact fun a h=>h
  | cons h hs ih=>exact fun a ha=>ih _ (h1 h.2 _ _ ha)
 exact h2 hs ([],[]) ⟨by simp,by simp⟩
theorem ZZ222 {ts:List (ByteArray×Int)}{t:ByteArray}{n:Int}(h:lvT ts t=some n):∃x∈ts,x.2=n:=by
 unfold lvT at h
 cases e:ts[posN (ts.map (·.1)) t]? with
 | none=>rw[e]at h;cases h
 | some x=>rw[e]at h;injection h with h;exact ⟨x,List.mem_of_getElem? e,h⟩
theorem Zx1 {us:List (ByteArray×Int)}{l:List ByteArray}(hl:∀t∈l,t∈us.map (·.1))(n:Int)(s:ByteArray):lvT (Zfm n us (l.map (posH (us.map (·.1))))) s=if hasB l s then some n else lvT us s:=by
 unfold lvT
 rw[Zf9,Ziq _ _ _ _ (fun h hh=>by obtain ⟨t,ht,rfl⟩:=List.mem_map.1 hh;rw[Zc3 (hl t ht)];omega)]
 by_cases hs:s∈us.map (·.1)
 ·have hlt:=(Zc2 hs).1
  rw[List.getElem?_eq_getElem (by simpa using hlt)]
  have hiff:((posN (us.map (·.1)) s:Int)+1∈l.map (posH (us.map (·.1))))↔s∈l:=by
   rw[←Zc3 hs]
   constructor
   ·intro h
    obtain ⟨t,ht,e⟩:=List.mem_map.1 h
    rw[←Zp8 (hl t ht) hs e];exact ht
   ·exact fun h=>List.mem_map.2 ⟨s,h,rfl⟩
  by_cases hsl:s∈l
  ·rw[if_pos (Zae.2 hsl)]
   simp only[Option.map_some,if_pos (hiff.2 hsl)]
  ·rw[if_neg (fun h=>hsl (Zae.1 h))]
   simp only[Option.map_some,if_neg (fun h=>hsl (hiff.1 h))]
 ·have hge:us.length≤posN (us.map (·.1)) s:=by rw[Zum hs];simp
  have hsl:¬hasB l s=true:=fun h=>hs (hl s (Zae.1 h))
  rw[List.getElem?_eq_none hge,if_neg hsl];rfl
theorem ZZ40 {hs:List (Nat×List ByteArray)}{d:Nat}{l:List ByteArray}{lv:Int→Int}(hok:HOk (hs++[(d,l)]))(hn:∀x∈hs,∀t∈x.2,t≠noT)(hT:∀t∈l,Zec t)(hl:l≠[])(hlv:∀h,1≤h→lv h=Zar (Sof hs) h) :
  ∃lv',(∀h,1≤h→lv' h=Zar (Sof (hs++[(d,l)])) h)∧levF lv d (l.map (posH ((l.foldl addT (Sof hs)).terms.map (·.1))),l.foldl addT (Sof hs)) = .ok (lv',Sof (hs++[(d,l)])):=by
 obtain ⟨hok1,hd3,hinv⟩:=hok.inv rfl
 have ho:=Znp l (Sof hs)
 have ht:=Zoe l (Sof hs)
 obtain ⟨r,hr1,hr2⟩:=ZZ39 l (Sof hs)
 have hS:(Sof (hs++[(d,l)]))=⟨l.foldl (fun u t=>putT u t (if 0<d then ((hTl hs).2++[(d:Int)]).length else 0)) (hTl hs).1,[],if 0<d then (hTl hs).2++[(d:Int)] else (hTl hs).2,[],0⟩:=by
  unfold Sof;rw[Zvh]
  unfold Zd1
  by_cases h:0<d<;>simp[h]
 have hmem:∀t∈l,t∈(l.foldl addT (Sof hs)).terms.map (·.1):=fun t h=>by
  rw[ht,Zfd];exact Zvl.2 (Or.inr h)
 have hnd1:((l.foldl addT (Sof hs)).terms.map (·.1)).Nodup:=by
  rw[ht,Zfd];exact Zle (Zl7 hs).2
 have hlv1:∀h,1≤h→lv h=Zar (l.foldl addT (Sof hs)) h:=fun h hh=>by rw[hlv h hh,Znl hr1 hr2]
 have hlv0:0<d→∀t∈l,lvT (l.foldl addT (Sof hs)).terms t=some 0:=fun hd t hm=>by
  rw[ht,Zki,if_pos (Zae.2 hm)]
  have h2:=(hinv hd).2 t hm
  rw[ZZ372 hok1 hn (Zeu (hT t hm).1)]at h2
  show some ((lvT (hTl hs).1 t).getD 0)=some 0
  cases hl:lvT (hTl hs).1 t with
  | none=>rfl
  | some n=>
   rw[hl]at h2
   obtain ⟨x,hx,e⟩:=ZZ222 hl
   have:=(Zl7 hs).1 x hx
   have hnn:¬0<n:=fun h=>h2 (by simp[knOf,h])
   show some n=some 0
   congr 1;omega
 generalize hS1:l.foldl addT (Sof hs)=S1 at *
 obtain ⟨a,b,c,e,f⟩:=S1
 simp only at ho ht hr1 hmem hnd1 hlv1 hlv0
 obtain ⟨h1,h2,h3,h4⟩:=ho
 subst h1 h2 h3 h4
 by_cases hd:0<d
 ·obtain ⟨hnd,hkn⟩:=hinv hd
  simp only[hd,if_true]at hS
  have hge:∀h∈l.map (posH (a.map (·.1))),1≤h:=fun h hh=>by obtain ⟨t,ht,rfl⟩:=List.mem_map.1 hh;rw[Zc3 (hmem t ht)];omega
  have hP:LvP (⟨a,(Sof hs).nons,(Sof hs).levels,(Sof hs).rules,(Sof hs).start⟩:BS) d (l.map (posH (a.map (·.1)))):=by
   refine ⟨by omega,by omega,by simpa using hl,fun h hh=>?_,?_⟩
   ·obtain ⟨t,ht2,rfl⟩:=List.mem_map.1 hh
    have h5:=hmem t ht2
    have h6:=(Zc2 h5).1
    have h7:=Zz8 (S:=⟨a,(Sof hs).nons,(Sof hs).levels,(Sof hs).rules,(Sof hs).start⟩) h5
    rw[hlv0 hd t ht2]at h7
    injection h7 with h7
    rw[Zc3 h5]
    simp only[List.length_map]at h6
    refine ⟨by omega,by show _≤(a.length:Int);omega,?_⟩
    unfold Zar at h7
    rw[←Zc3 h5]
    exact h7.symm
   ·refine List.pairwise_map.2 (List.Pairwise.imp_of_mem ?_ hnd)
    intro x y hx hy hxy e
    exact hxy (Zp8 (hmem x hx) (hmem y hy) e)
  have hlev:=Zf0 hP
  have hn0:((hTl hs).2++[(d:Int)]).length≠0:=by simp
  have hnn:(((hTl hs).2++[(d:Int)]).length:Int)=((hTl hs).2.length:Int)+1:=by simp
  have hS2:Sof (hs++[(d,l)])=⟨Zfm (((hTl hs).2.length:Int)+1) a (l.map (posH (a.map (·.1)))),[],(hTl hs).2++[(d:Int)],[],0⟩:=by
   rw[hS]
   congr 1
   refine ZZ178 ?_ ?_ fun s=>?_
   ·rw[Zf9,Zfd,ht,Zfd];rfl
   ·rw[Zfd];exact Zle (Zl7 hs).2
   ·rw[Zqz _ hn0,Zx1 hmem,hnn]
    by_cases hb:hasB l s=true
    ·rw[if_pos hb,if_pos hb]
    ·rw[if_neg hb,if_neg hb,ht,Zki,if_neg hb];rfl
  refine ⟨fun t=>if t∈l.map (posH (a.map (·.1))) then ((hTl hs).2.length:Int)+1 else lv t,?_,?_⟩
  ·intro h hh
   rw[hS2]
   show _=((_:Option (ByteArray×Int)).map (·.2)).getD 0
   rw[Ziq _ _ _ _ hge,show (((h-1).toNat:Nat):Int)+1=h by omega]
   by_cases hm:h∈l.map (posH (a.map (·.1)))
   ·obtain ⟨t,ht2,rfl⟩:=List.mem_map.1 hm
    have h6:=(Zc2 (hmem t ht2)).1
    simp only[List.length_map]at h6
    have h7:(posH (a.map (·.1)) t-1).toNat<a.length:=by rw[Zc3 (hmem t ht2)];omega
    simp only[if_pos hm,List.getElem?_eq_getElem h7];rfl
   ·simp only[if_neg hm]
    rw[hlv1 h hh]
    unfold Zar
    cases a[(h-1).toNat]?<;>rfl
  ·unfold levF
   rw[if_pos hd,hS2]
   have hen:en (Zf3 (⟨a,(Sof hs).nons,(Sof hs).levels,(Sof hs).rules,(Sof hs).start⟩:BS) d (l.map (posH (a.map (·.1))))) = .ok (((hTl hs).2.length:Int)+1,⟨Zfm (((hTl hs).2.length:Int)+1) a (l.map (posH (a.map (·.1)))),[],(hTl hs).2++[(d:Int)],[],0⟩):=by
    rw[hlev];rfl
   rw[hen];rfl
 ·have hd0:d=0:=by omega
  subst hd0
  have hS2:Sof (hs++[(0,l)])=⟨a,(Sof hs).nons,(Sof hs).levels,(Sof hs).rules,(Sof hs).start⟩:=by
   rw[hS,ht];simp[Sof]
  rw[hS2]
  refine ⟨lv,hlv1,?_⟩
  unfold levF;rw[if_neg (by omega)];rfl
theorem Zzu {hs:List (Nat×List ByteArray)}(hok:HOk hs)(hT:∀x∈hs,∀t∈x.2,Zec t)(hne:∀x∈hs,x.2≠[]) :
  ∃lv,(∀h,1≤h→lv h=Zar (Sof hs) h)∧Run (hs.foldlM Zl0 (fun _=>0,S0)) (Q (Sof hs)) (lv,Sof hs):=by
 have key:∀n,∀hs:List (Nat×List ByteArray),hs.length=n→HOk hs→(∀x∈hs,∀t∈x.2,Zec t)→(∀x∈hs,x.2≠[])→∃lv,(∀h,1≤h→lv h=Zar (Sof hs) h)∧Run (hs.foldlM Zl0 (fun _=>0,S0)) (Q (Sof hs)) (lv,Sof hs):=fun n=>by
  induction n with
  | zero=>
   intro hs hl _ _ _
   have:hs=[]:=List.length_eq_zero_iff.1 hl
   subst this
   exact ⟨fun _=>0,fun h _=>by simp[Zar,Sof,hTl],.inl ⟨by simp[Q,Sof,hTl],rfl⟩⟩
  | succ n ih=>
   intro hs hl hok hT hne
   rcases List.eq_nil_or_concat hs with e|⟨a,⟨d,l⟩,e⟩
   ·rw[e]at hl;simp at hl
   ·have e':hs=a++[(d,l)]:=by simpa using e
    subst e'
    have hTa:∀x∈a,∀t∈x.2,Zec t:=fun x hx=>hT x (by simp[hx])
    have hTl:∀t∈l,Zec t:=hT (d,l) (by simp)
    obtain ⟨lv,h1,h2⟩:=ih a (by simpa using hl) (hok.inv rfl).1 hTa (fun x hx=>hne x (by simp[hx]))
    obtain ⟨lv',h3,h4⟩:=ZZ40 hok (fun x hx t ht=>Zeu (hTa x hx t ht).1) hTl (hne (d,l) (by simp)) h1
    refine ⟨lv',h3,?_⟩
    rw[List.foldlM_append]
    have hQ1:Q (Sof (a++[(d,l)]))↔Q (l.foldl addT (Sof a)):=by
     have e1:(Sof (a++[(d,l)])).terms.length=(l.foldl addT (Sof a)).terms.length:=by
      have:(Sof (a++[(d,l)])).terms.map (·.1)=(l.foldl addT (Sof a)).terms.map (·.1):=by
       rw[Zoe,Zfd]
       show ((Spec.hTl (a++[(d,l)])).1).map (·.1)=_
       rw[Zvh];unfold Zd1;exact Zfd _ _ _
      simpa using congrArg List.length this
     have h5:=Znp l (Sof a)
     unfold Q
     rw[e1,h5.1,h5.2.2.1];rfl
    refine Run.bind h2 (fun hq=>?_) (fun hq=>ZZ27 (hQ1.1 hq))
    have hone:[(d,l)].foldlM Zl0 (lv,Sof a)=Zl0 (lv,Sof a) (d,l):=by simp
    rw[hone]
    unfold Zl0
    refine Run.bind (ZZ9 l [] (Sof a) hq hTl) (fun hq2=>?_) hQ1.1
    rw[List.nil_append]
    exact .inl ⟨hQ1.2 hq2,h4⟩
 exact key _ hs rfl hok hT hne
end Go.Proofs.YtckbgeedlobfaaaGreatDoor
namespace Go.Px.Spec
open Go.Px Go.Px.Scan
theorem ZZ277 {ts:List (ByteArray×Int)}{k:Int}(h:∀x∈ts,x.2≤k)(hk:0≤k)(t:ByteArray)(n:Nat)(hn:(n:Int)≤k):∀x∈putT ts t n,x.2≤k:=by
 have hu:∀x∈(if hasB (ts.map (·.1)) t then ts else ts++[(t,(0:Int))]),x.2≤k:=by
  split
  ·exact h
  ·intro x hx
   rcases List.mem_append.1 hx with hx|hx
   ·exact h x hx
   ·simp at hx;subst hx;exact hk
 unfold putT
 simp only
 split
 ·exact hu
 ·intro x hx
  obtain ⟨i,hi⟩:=List.getElem?_of_mem hx
  rw[List.getElem?_modify]at hi
  generalize hq:(if hasB (ts.map (·.1)) t then ts else ts++[(t,(0:Int))])=us at *
  cases e:us[i]? with
  | none=>rw[e]at hi;simp at hi
  | some y=>
   rw[e]at hi
   simp at hi
   split at hi
   ·subst hi;exact hn
   ·subst hi;exact hu y (List.mem_of_getElem? e)
theorem ZZ311 (hs:List (Nat×List ByteArray)):∀x∈(hTl hs).1,x.2≤((hTl hs).2.length:Int):=by
 have h1:∀(k:Int),0≤k→∀(l:List ByteArray) (n:Nat),(n:Int)≤k→∀(ts:List (ByteArray×Int)),(∀x∈ts,x.2≤k)→∀x∈l.foldl (fun u t=>putT u t n) ts,x.2≤k:=fun k hk l n hn=>by
  induction l with
  | nil=>exact fun ts h=>h
  | cons t l ih=>exact fun ts h=>ih _ (ZZ277 h hk t n hn)
 have h2:∀(hs:List (Nat×List ByteArray)) (a:List (ByteArray×Int)×List Int),(∀x∈a.1,x.2≤(a.2.length:Int))→∀x∈(hs.foldl Zd1 a).1,x.2≤((hs.foldl Zd1 a).2.length:Int):=fun hs=>by
  induction hs with
  | nil=>exact fun a h=>h
  | cons h hs ih=>
   intro a ha
   refine ih _ ?_
   unfold Zd1
   simp only
   have h3:(a.2.length:Int)≤((if 0<h.1 then a.2++[(h.1:Int)] else a.2).length:Int):=by split<;>simp<;>omega
   refine h1 _ (by omega) h.2 _ ?_ _ fun x hx=>Int.le_trans (ha x hx) h3
   by_cases hd:0<h.1<;>simp[hd]
 exact h2 hs ([],[]) (by simp)
def stepW (ls:List ByteArray)(S:BS)(w:Wd):BS:=if Zdj ls w then addN S w.2.1 else addT S w.2.1
def hW (ls:List ByteArray)(S:BS)(w:Wd):Int:=if Zdj ls w then -posH S.nons w.2.1 else posH (S.terms.map (·.1)) w.2.1
def Zdn (ls:List ByteArray)(S:BS)(r:RowS):BS :=
 let S2:=r.words.foldl (stepW ls) (addN S r.left)
 if r.by_=noT then S2 else addT S2 r.by_
structure More (S S':BS):Prop where
 terms:∃r,S'.terms=S.terms++r∧∀x∈r,x.2=0
 nons:Ext S.nons S'.nons
 lev:S'.levels=S.levels
 rules:S'.rules=S.rules
 start:S'.start=S.start
theorem More.refl (S:BS):More S S:=⟨⟨[],by simp,by simp⟩,Ext.refl _,rfl,rfl,rfl⟩
theorem More.trans {A B C:BS}(h:More A B)(k:More B C):More A C:=by
 obtain ⟨r,h1,h2⟩:=h.terms
 obtain ⟨q,k1,k2⟩:=k.terms
 refine ⟨⟨r++q,by rw[k1,h1];simp,fun x hx=>?_⟩,h.nons.trans k.nons,k.lev.trans h.lev,k.rules.trans h.rules,k.start.trans h.start⟩
 rcases List.mem_append.1 hx with hx|hx
 ·exact h2 x hx
 ·exact k2 x hx
theorem More.addT (S:BS)(t:ByteArray):More S (addT S t):=by
 unfold Spec.addT
 split
 ·exact More.refl S
 ·exact ⟨⟨[(t,0)],rfl,by simp⟩,Ext.refl _,rfl,rfl,rfl⟩
theorem More.addN (S:BS)(t:ByteArray):More S (addN S t):=by
 unfold Spec.addN
 split
 ·exact More.refl S
 ·exact ⟨⟨[],by simp,by simp⟩,⟨[t],rfl⟩,rfl,rfl,rfl⟩
theorem More.stepW (ls:List ByteArray)(S:BS)(w:Wd):More S (stepW ls S w):=by
 unfold Spec.stepW;split
 ·exact More.addN S _
 ·exact More.addT S _
theorem More.fold (ls:List ByteArray)(l:List Wd):∀S:BS,More S (l.foldl (Spec.stepW ls) S):=by
 induction l with
 | nil=>exact More.refl
 | cons w l ih=>exact fun S=>(More.stepW ls S w).trans (ih _)
theorem More.syms (ls:List ByteArray)(S:BS)(r:RowS):More S (Zdn ls S r):=by
 unfold Zdn
 simp only
 have h:=(More.addN S r.left).trans (More.fold ls r.words _)
 split
 ·exact h
 ·exact h.trans (More.addT _ _)
theorem More.ext {S S':BS}(h:More S S'):Ext (S.terms.map (·.1)) (S'.terms.map (·.1)):=by
 obtain ⟨r,h1,_⟩:=h.terms;exact ⟨r.map (·.1),by rw[h1];simp⟩
theorem More.Q {S S':BS}(h:More S S')(hq:Q S'):Q S:=by
 obtain ⟨r,h1,_⟩:=h.terms
 obtain ⟨q,h2⟩:=h.nons
 have h3:=hq.1
 rw[h1,h2]at h3
 simp at h3
 exact ⟨by omega,by rw[←h.rules];exact hq.2⟩
def inW (ls:List ByteArray)(S:BS)(w:Wd):Prop:=if Zdj ls w then w.2.1∈S.nons else w.2.1∈S.terms.map (·.1)
theorem Zvx (ls:List ByteArray)(S:BS)(w:Wd):inW ls (stepW ls S w) w:=by
 unfold inW stepW
 split
 ·exact Zmh S _
 ·exact Zmd S _
theorem More.inW {S S':BS}(h:More S S'){ls:List ByteArray}{w:Wd}(hw:inW ls S w):inW ls S' w:=by
 unfold Spec.inW at hw ⊢
 split
 ·rename_i h1;rw[if_pos h1]at hw;exact h.nons.mem hw
 ·rename_i h1;rw[if_neg h1]at hw;exact h.ext.mem hw
theorem More.hW {S S':BS}(h:More S S'){ls:List ByteArray}{w:Wd}(hw:Spec.inW ls S w):hW ls S' w=hW ls S w:=by
 unfold Spec.inW at hw
 unfold Spec.hW
 split
 ·rename_i h1;rw[if_pos h1]at hw;rw[h.nons.posH hw]
 ·rename_i h1;rw[if_neg h1]at hw;rw[h.ext.posH hw]
end Go.Px.Spec
namespace Go.Proofs.YtckbgeedlobfaaaGreatDoor
open Go.Px Go.Px.Scan Go.Px.Spec Go.RowKit
theorem Zk8 {S S':BS}(h:More S S')(k:Int):Zar S' k=Zar S k:=by obtain ⟨r,h1,h2⟩:=h.terms;exact Znl h1 h2 k
theorem ZZ232 {ls:List ByteArray}{S:BS}{w:Wd}(hw:WP w)(hT:isTB w=true)(hq:Q S):Run (symM ls S w) (Q (stepW ls S w)) (hW ls (stepW ls S w) w,stepW ls S w):=by
 have hi:Zdj ls w=true↔w.1=1∧hasB ls w.2.1=true:=by simp[Zdj];exact And.comm
 unfold symM stepW hW
 by_cases h:Zdj ls w=true
 ·have h2:=hi.1 h
  rw[if_pos h2,if_pos h,if_pos h]
  exact Ztu (hw.1 h2.1) hq
 ·have h2:¬(w.1=1∧hasB ls w.2.1=true):=fun h3=>h (hi.2 h3)
  rw[if_neg h2,if_neg h,if_neg h]
  exact Zp7 (Tm.term ⟨w,hw,hT,rfl⟩) hq
theorem ZZ163 {ls:List ByteArray}(l:List Wd):∀(l0:List Int) (S:BS),Q S→(∀w∈l,WP w∧isTB w=true)→Run (l.foldlM (symF ls) (l0,S)) (Q (l.foldl (stepW ls) S)) (l0++l.map (hW ls (l.foldl (stepW ls) S)),l.foldl (stepW ls) S):=by
 induction l with
 | nil=>intro l0 S hq _;exact .inl ⟨hq,by simp;rfl⟩
 | cons w l ih=>
  intro l0 S hq hT
  have hw:=hT w (by simp)
  rw[List.foldlM_cons,List.foldl_cons]
  refine Run.bind (a:=(l0++[hW ls (stepW ls S w) w],stepW ls S w)) (Run.bind (ZZ232 hw.1 hw.2 hq) (fun hp=> .inl ⟨hp,rfl⟩) id) (fun hp=>?_) (More.fold ls l _).Q
  refine (ih _ (stepW ls S w) hp fun x hx=>hT x (by simp[hx])).cast Iff.rfl ?_
  rw[List.map_cons,(More.fold ls l (stepW ls S w)).hW (Zvx ls S w)]
  simp
def levR (ls:List ByteArray)(S:BS)(r:RowS):Int :=
 if r.said=2 then 0 else if r.by_≠noT then Zar S (posH (S.terms.map (·.1)) r.by_) else Zfk S (r.words.map (hW ls S))
def Zgk (ls:List ByteArray)(S:BS)(r:RowS):Int×List Int×Int:=(-posH S.nons r.left,r.words.map (hW ls S),levR ls S r)
def rowS (ls:List ByteArray)(S:BS)(r:RowS):BS:={Zdn ls S r with rules:=S.rules++[Zgk ls (Zdn ls S r) r] }
theorem ZZ35 {S:BS}{t:ByteArray}(h:t∈S.nons):isN S (-posH S.nons t)=true:=by
 have:=(Zc2 h).1
 unfold isN
 rw[Zc3 h]
 simp;omega
theorem ZZ354 {S:BS}{t:ByteArray}(h:t∈S.terms.map (·.1)):isT S (posH (S.terms.map (·.1)) t)=true:=by
 have:=(Zc2 h).1
 unfold isT
 rw[Zc3 h]
 simp at this ⊢;omega
theorem ZZ240 {ls:List ByteArray}{S:BS}{w:Wd}(h:inW ls S w):badH S (hW ls S w)=false:=by
 unfold inW at h
 unfold hW badH
 split
 ·rename_i h1;rw[if_pos h1]at h;rw[ZZ35 h];simp
 ·rename_i h1;rw[if_neg h1]at h;rw[ZZ354 h];simp
theorem Zyh {ls:List ByteArray}(l:List Wd):∀S:BS,∀w∈l,inW ls (l.foldl (stepW ls) S) w:=by
 induction l with
 | nil=>intro S w hw;cases hw
 | cons x l ih=>
  intro S w hw
  rw[List.foldl_cons]
  rcases List.mem_cons.1 hw with rfl|hw
  ·exact (More.fold ls l _).inW (Zvx ls S w)
  ·exact ih _ w hw
theorem Ztx {α:Type}(l:List α)(x:α)(f:α→α):(l++[x]).modify l.length f=l++[f x]:=by
 apply List.ext_getElem?
 intro i
 rw[List.getElem?_modify]
 by_cases h:i<l.length
 ·have h2:¬l.length=i:=by omega
  rw[List.getElem?_append_left h,List.getElem?_append_left h];simp[h2]
 ·rw[List.getElem?_append_right (by omega),List.getElem?_append_right (by omega)]
  by_cases h2:i=l.length
  ·subst h2;simp
  ·have:i-l.length≠0:=by omega
   simp[h2,this]
theorem Zo1 {S:BS}{R:List (Int×List Int×Int)}{l:Int}{q:List Int}{x level:Int}(hr:S.rules=R++[(l,q,x)])(h0:0≤level)(h1:level≤S.levels.length):(Ze0 S level [(R.length:Int)]).2={S with rules:=R++[(l,q,level)] }:=by
 unfold Ze0
 rw[if_pos ⟨⟨h0,h1⟩,fun p hp=>by rw[List.mem_singleton.1 hp,hr];simp;omega⟩]
 show ({S with rules:=S.rules.modify (R.length:Int).toNat fun r=>(r.1,r.2.1,level) }:BS)=_
 rw[hr,Int.toNat_natCast,Ztx]
theorem ZZ189 {ls:List ByteArray}{lv:Int→Int}{S:BS}{r:RowS}{k:Nat}(hlv:∀h,1≤h→lv h=Zar S h)(hlo:∀h,0≤Zar S h∧Zar S h≤S.levels.length)(hr:RI WP k r)(hsd:Sd r)(hq:Q S) :
  Run (rowF ls lv S r) (Q (rowS ls S r)) (rowS ls S r):=by
 have hl:Zfi r.left:=hr.left.name
 have m1:=More.addN S r.left
 have m2:=More.fold ls r.words (addN S r.left)
 have m12:=m1.trans m2
 have m3:More (r.words.foldl (stepW ls) (addN S r.left)) (Zdn ls S r):=by
  unfold Zdn;simp only;split
  ·exact More.refl _
  ·exact More.addT _ _
 have mS:=More.syms ls S r
 have hrules:(Zdn ls S r).rules=S.rules:=mS.rules
 have hQ:Q (rowS ls S r)→Q (Zdn ls S r)∧S.rules.length+1≤96:=fun h=>by
  have h2:=h.2
  have e:(rowS ls S r).rules.length=S.rules.length+1:=by simp[rowS]
  rw[e]at h2
  exact ⟨⟨h.1,by rw[hrules];omega⟩,h2⟩
 have hQ2:Q (Zdn ls S r)→S.rules.length+1≤96→Q (rowS ls S r):=fun h h2=>⟨h.1,by simp[rowS];omega⟩
 unfold rowF
 refine Run.bind (Ztu hl hq) (fun hq1=>?_) (fun h=>(m2.trans m3).Q (hQ h).1)
 refine Run.bind (ZZ163 r.words [] (addN S r.left) hq1 hr.wx) (fun hq2=>?_) (fun h=>m3.Q (hQ h).1)
 rw[List.nil_append]
 have hinl:r.left∈(r.words.foldl (stepW ls) (addN S r.left)).nons:=m2.nons.mem (Zmh S r.left)
 have hinw:=Zyh (ls:=ls) r.words (addN S r.left)
 have hrl:(r.words.foldl (stepW ls) (addN S r.left)).rules=S.rules:=m12.rules
 have hleft : -posH (addN S r.left).nons r.left = -posH (r.words.foldl (stepW ls) (addN S r.left)).nons r.left:=by rw[m2.nons.posH (Zmh S r.left)]
 have hgr:∀h,Zar (r.words.foldl (stepW ls) (addN S r.left)) h=Zar S h:=Zk8 m12
 have hlev:(r.words.foldl (stepW ls) (addN S r.left)).levels=S.levels:=m12.lev
 have hsy:Zdn ls S r=if r.by_=noT then r.words.foldl (stepW ls) (addN S r.left) else addT (r.words.foldl (stepW ls) (addN S r.left)) r.by_:=rfl
 show Run (en (Zez (r.words.foldl (stepW ls) (addN S r.left)) (-posH (addN S r.left).nons r.left) (r.words.map (hW ls (r.words.foldl (stepW ls) (addN S r.left))))) >>= _) _ _
 rw[hleft]
 generalize hS2:r.words.foldl (stepW ls) (addN S r.left)=S2 at *
 have hrul:Zez S2 (-posH S2.nons r.left) (r.words.map (hW ls S2))=if 96≤S2.rules.length then (0,11,S2) else ((S2.rules.length:Int),0,{S2 with rules:=S2.rules++[(-posH S2.nons r.left,r.words.map (hW ls S2),Zfk S2 (r.words.map (hW ls S2)))] }):=by
  unfold Zez
  rw[if_neg]
  rintro (h|h)
  ·rw[ZZ35 hinl]at h;cases h
  ·rw[List.any_eq_true]at h
   obtain ⟨x,hx,h2⟩:=h
   obtain ⟨w,hw,rfl⟩:=List.mem_map.1 hx
   rw[ZZ240 (hinw w hw)]at h2;cases h2
 rw[hrul,hrl]
 by_cases h96:96≤S.rules.length
 ·rw[if_pos h96]
  exact .inr ⟨fun h=>by have:=(hQ h).2;omega,rfl⟩
 ·rw[if_neg h96]
  have hok:S.rules.length+1≤96:=by omega
  have hen:∀(p:Int) (T:BS),en (p,0,T) = .ok (p,T):=fun p T=>rfl
  rw[hen]
  show Run (endF lv r.by_ r.said ((S.rules.length:Int),{S2 with rules:=S.rules++[(-posH S2.nons r.left,r.words.map (hW ls S2),Zfk S2 (r.words.map (hW ls S2)))] })) _ _
    -- the end, with whatever level was said
  have fin:∀(S3:BS) (x:Int),S3.rules=S.rules++[(-posH S2.nons r.left,r.words.map (hW ls S2),x)]→S3.levels=S.levels→{S3 with rules:=S.rules }={Zdn ls S r with rules:=S.rules } →
    (x=if r.by_≠noT then Zar (Zdn ls S r) (posH ((Zdn ls S r).terms.map (·.1)) r.by_) else Zfk (Zdn ls S r) (r.words.map (hW ls (Zdn ls S r)))) →
    (if r.said=2 then (Ze0 S3 0 [(S.rules.length:Int)]).2 else S3)=rowS ls S r:=fun S3 x h3 hl3 he hx=>by
   have hmw:r.words.map (hW ls S2)=r.words.map (hW ls (Zdn ls S r)):=List.map_congr_left fun w hw=>(m3.hW (hinw w hw)).symm
   have hml : -posH S2.nons r.left = -posH (Zdn ls S r).nons r.left:=by rw[m3.nons.posH hinl]
   have goal:∀y:Int,y=levR ls (Zdn ls S r) r→({S3 with rules:=S.rules++[(-posH S2.nons r.left,r.words.map (hW ls S2),y)] }:BS)=rowS ls S r:=fun y hy=>by
    have h5:({S3 with rules:=S.rules++[(-posH S2.nons r.left,r.words.map (hW ls S2),y)] }:BS)={({S3 with rules:=S.rules }:BS) with rules:=S.rules++[(-posH S2.nons r.left,r.words.map (hW ls S2),y)] }:=rfl
    rw[h5,he,hml,hmw,hy];rfl
   by_cases h2:r.said=2
   ·rw[if_pos h2,Zo1 h3 (by omega) (by omega)]
    exact goal 0 (by unfold levR;rw[if_pos h2])
   ·rw[if_neg h2]
    have h6:S3={S3 with rules:=S.rules++[(-posH S2.nons r.left,r.words.map (hW ls S2),x)] }:=by rw[←h3]
    rw[h6]
    exact goal x (by unfold levR;rw[if_neg h2];exact hx)
  unfold endF Ztd
  by_cases hb:r.by_=noT
  ·rw[if_pos hb]at hsy ⊢
   refine .inl ⟨hQ2 (by rw[hsy];exact hq2) hok,?_⟩
   show Except.ok _=Except.ok _
   congr 1
   refine fin _ (Zfk S2 (r.words.map (hW ls S2))) rfl hlev ?_ ?_
   ·rw[hsy]
   ·rw[if_neg (by simp[hb]),hsy]
  ·rw[if_neg hb]at hsy ⊢
   have hbT:Zec r.by_:=by
    rcases hr.by_ with e|e
    ·exact absurd e hb
    ·exact e.term
   have hq3:Q ({S2 with rules:=S.rules++[(-posH S2.nons r.left,r.words.map (hW ls S2),Zfk S2 (r.words.map (hW ls S2)))] }:BS):=⟨hq2.1,by simp;omega⟩
   have hat:∀(R:List (Int×List Int×Int)),addT ({S2 with rules:=R }:BS) r.by_={addT S2 r.by_ with rules:=R }:=fun R=>by unfold addT;simp only;split<;>rfl
   have ht:=Zp7 (t:=r.by_) hbT hq3
   rw[hat]at ht
   rw[←hsy]at ht
   have hQ3:Q ({Zdn ls S r with rules:=S.rules++[(-posH S2.nons r.left,r.words.map (hW ls S2),Zfk S2 (r.words.map (hW ls S2)))] }:BS)↔Q (rowS ls S r) :=
    ⟨fun h=>hQ2 ⟨h.1,by rw[hrules];omega⟩ hok,fun h=>⟨h.1,by simp;omega⟩⟩
   have hmemb:r.by_∈(Zdn ls S r).terms.map (·.1):=by rw[hsy];exact Zmd _ _
   have hlvb:lv (posH ((Zdn ls S r).terms.map (·.1)) r.by_)=Zar (Zdn ls S r) (posH ((Zdn ls S r).terms.map (·.1)) r.by_):=by
    rw[hlv _ (by rw[Zc3 hmemb];omega),Zk8 mS]
   dsimp only
   rcases ht with ⟨hp,e⟩|⟨hp,e⟩
   ·rw[e]
    refine .inl ⟨hQ3.1 hp,?_⟩
    show Except.ok _=Except.ok _
    congr 1
    have hgb:=hlo (posH ((Zdn ls S r).terms.map (·.1)) r.by_)
    rw[←Zk8 mS]at hgb
    have hg:(Ze0 ({Zdn ls S r with rules:=S.rules++[(-posH S2.nons r.left,r.words.map (hW ls S2),Zfk S2 (r.words.map (hW ls S2)))] }:BS) (lv (posH ((Zdn ls S r).terms.map (·.1)) r.by_)) [(S.rules.length:Int)]).2={Zdn ls S r with rules:=S.rules++[(-posH S2.nons r.left,r.words.map (hW ls S2),Zar (Zdn ls S r) (posH ((Zdn ls S r).terms.map (·.1)) r.by_))] }:=by
     rw[hlvb]
     exact Zo1 rfl hgb.1 (by show _≤((Zdn ls S r).levels.length:Int);rw[mS.lev];exact hgb.2)
    rw[hg]
    refine fin _ _ rfl mS.lev rfl ?_
    rw[if_pos hb]
   ·rw[e]
    exact .inr ⟨fun h=>hp (hQ3.2 h),rfl⟩
end Go.Proofs.YtckbgeedlobfaaaGreatDoor
namespace Go.Px.Spec
open Go.Px Go.Px.Scan
def rowT (ls:List ByteArray)(r:RowS):List ByteArray:=(r.words.filter fun w=> !Zdj ls w).map (·.2.1)++(if r.said=1 then [r.by_] else [])
def numF (ls:List ByteArray)(ts:List (ByteArray×Int))(r:RowS):List (ByteArray×Int):=(rowT ls r).foldl (fun ts t=>putT ts t 0) ts
def numX (x:Rx):Rx:={x with ts:=x.rows.foldl (numF x.ls) x.ts }
theorem Zyr (ts:List (ByteArray×Int))(t:ByteArray):putT ts t 0=if hasB (ts.map (·.1)) t then ts else ts++[(t,0)]:=by unfold putT;simp
end Go.Px.Spec
namespace Go.Proofs.YtckbgeedlobfaaaGreatDoor
open Go.Px Go.Px.Scan Go.Px.Spec Go.RowKit
attribute [-go_sem] Builtin.append_
section
variable {G:Nat→Prop} {W w w1:World} {R:EP} {C3 C13:VP} {tb q:Nat} {x:Rx} {D:TD} {L:List Ch} {us:List Value} {c0:Ch}
end
end Go.Proofs.YtckbgeedlobfaaaGreatDoor
namespace Go.Px.Spec
open Go.Px Go.Px.Scan
def lvAt (ts:List (ByteArray×Int))(i:Int):Int:=((ts[i.toNat]?).map (·.2)).getD 0
def lev1 (ts:List (ByteArray×Int))(a:Int)(s:Int):Int:=if s<ts.length then lvAt ts s else a
def rlev (ts:List (ByteArray×Int))(ls:List ByteArray)(r:RowS):Int :=
 if r.said=2 then 0 else if r.said=1 then lvAt ts (posI ts r.by_) else (r.words.map (symX ts ls)).foldl (lev1 ts) 0
def gPr (x:Rx)(r:RowS):Int×List Int×Int:=(nonX x.ts.length x.ls r.left,r.words.map (symX x.ts x.ls),rlev x.ts x.ls r)
def gOf (x:Rx):Gr:=⟨x.ts,x.ls,x.lv,if x.st=noT then x.ts.length else nonX x.ts.length x.ls x.st,x.rows.map (gPr x)⟩
end Go.Px.Spec
namespace Go.Proofs.YtckbgeedlobfaaaGreatDoor
open Go.Px Go.Px.Scan Go.Px.Spec Go.RowKit
attribute [-go_sem] Builtin.append_
section
variable {G:Nat→Prop} {W w w1:World} {R:EP} {C6:VP} {tb q pb gb rb:Nat} {x:Rx} {D:TD} {L:List Ch} {us vs:List Value}
theorem bPr0 (x:Int)(w:World):(Instr.build 50 #[(0,.int .i64 x)]).run Tryz.prog w = .ok (.agg #[.int .i64 x,.slice none 0 0,.int .i64 0]) w:=by simp[go_sem]
attribute [go_sem ↓] bPr0
end
end Go.Proofs.YtckbgeedlobfaaaGreatDoor
namespace Go.Px
open Go.RowKit
end Go.Px
namespace Go.Proofs.YtckbgeedlobfaaaGreatDoor
open Go.Px Go.Px.Scan Go.RowKit
attribute [-go_sem] Builtin.append_
attribute [-go_sem] Zc8.b3 Zc8.b7 Zc8.b4
def ZZ50 (t:ByteArray×Int):List Value:=[.string t.1,.int .i64 t.2]
def cStr (s:ByteArray):List Value:=[.string s]
def cInt (x:Int):List Value:=[.int .i64 x]
def cPr (p:(Int×List Int×Int)×Value):List Value:=[.int .i64 p.1.1,p.2,.int .i64 p.1.2.2]
theorem Zrj (l:List Int):l.flatMap cInt=l.map (.int .i64 ·):=Zfu _ _
theorem ZZ344 (x y:Int)(w:World):(Instr.build 50 #[(0,.int .i64 x),(2,.int .i64 y)]).run Tryz.prog w = .ok (.agg #[.int .i64 x,.slice none 0 0,.int .i64 y]) w:=by simp[go_sem]
theorem ZZ298 (x:Int)(w:World):(Instr.build 27 #[(3,.int .i64 x)]).run Tryz.prog w = .ok (.agg #[.slice none 0 0,.slice none 0 0,.slice none 0 0,.int .i64 x,.slice none 0 0]) w:=by simp[go_sem]
attribute [go_sem ↓] ZZ344 ZZ298
def CpL (q rb ob:Nat)(g:Gr)(A1:Option Addr)(c1:Nat)(A2:Option Addr)(c2:Nat)(A3:Option Addr)(c3:Nat)(A4:Option Addr)(c4:Nat)(At:Option Addr)(ct:Nat)(An:Option Addr)(cn:Nat)(Al:Option Addr)(cl:Nat)(k:Nat)(Ap:Option Addr)(cp:Nat)(vs:List Value):List Ch :=
 [boxC q 27 [.slice A1 g.terms.length c1,.slice A2 g.nons.length c2,.slice A3 g.levels.length c3,.int .i64 g.start,.slice A4 g.prods.length c4],
   boxC rb 27 [.slice none 0 0,.slice none 0 0,.slice none 0 0,.int .i64 0,.slice none 0 0],
   boxC ob 27 [.slice At g.terms.length ct,.slice An g.nons.length cn,.slice Al g.levels.length cl,.int .i64 g.start,.slice Ap k cp],
   rowC 64 2 At g.terms.length ct (g.terms.flatMap ZZ50),rowC 9 1 An g.nons.length cn (g.nons.flatMap cStr),rowC 3 1 Al g.levels.length cl (g.levels.flatMap cInt),
   rowC 50 3 Ap k cp (((g.prods.take k).zip vs).flatMap cPr),Zeg 3 1 vs ((g.prods.take k).map fun p=>p.2.1.flatMap cInt)]
structure GFit (g:Gr):Prop where
 terms:g.terms.length*24≤Zr
 nons:g.nons.length*16≤Zr
 levels:g.levels.length*8≤Zr
 prods:g.prods.length*40≤Zr
 right:∀p∈g.prods,p.2.1.length*8≤Zr
theorem Ziu {n:Nat}(h:n≤Zyn):n≤Zr:=Nat.le_trans h (by decide)
theorem ZZ132 {g:Gr}(h:Zcz.fit g):GFit g where
 terms:=Ziu h.1.1
 nons:=Ziu h.2.1.1
 levels:=Ziu h.2.2.1.1
 prods:=Ziu h.2.2.2.2.1
 right p hp:=Ziu (h.2.2.2.2.2 p hp).2.1.1
theorem ZZ208 {w:World}{B:Nat}{vg:Value}{g:Gr}(h:Zcz.atN w B vg g)(hB:B≤w.heap.size)(hfit:GFit g):Ct Tryz.prog Zc8.id #[vg] w fun v w'=>Zoy w w' v g:=by
 refine Zc8.ct fun R hR=>?_
 obtain ⟨A1,c1,A2,c2,A3,c3,A4,c4,rfl,h1,h2,h3,hst,h4,k1,k2,k3,k4⟩:=(Zbl h).ex
 obtain ⟨g1,g2,g3,g4,g5⟩:=hfit
 obtain ⟨q,hq⟩:∃q,w.heap.size=q:=⟨_,rfl⟩
 obtain ⟨rb,hrb⟩:∃rb,(w.alloc (.cells #[.slice A1 g.terms.length c1,.slice A2 g.nons.length c2,.slice A3 g.levels.length c3,.int .i64 g.start,.slice A4 g.prods.length c4] 27)).heap.size=rb:=⟨_,rfl⟩
 obtain ⟨ob,hob⟩:∃ob,((w.alloc (.cells #[.slice A1 g.terms.length c1,.slice A2 g.nons.length c2,.slice A3 g.levels.length c3,.int .i64 g.start,.slice A4 g.prods.length c4] 27)).alloc (.cells #[.slice none 0 0,.slice none 0 0,.slice none 0 0,.int .i64 0,.slice none 0 0] 27)).heap.size=ob:=⟨_,rfl⟩
 have s1:=((St.refl noB w).alloc #[.slice A1 g.terms.length c1,.slice A2 g.nons.length c2,.slice A3 g.levels.length c3,.int .i64 g.start,.slice A4 g.prods.length c4] 27).alloc #[.slice none 0 0,.slice none 0 0,.slice none 0 0,.int .i64 0,.slice none 0 0] 27
 rw[hq]at s1
 have cs:=(s1.box 0 rfl).1.2.2.2.1
 have s2:=(((St.refl noB w).alloc #[.slice A1 g.terms.length c1,.slice A2 g.nons.length c2,.slice A3 g.levels.length c3,.int .i64 g.start,.slice A4 g.prods.length c4] 27).alloc #[.slice none 0 0,.slice none 0 0,.slice none 0 0,.int .i64 0,.slice none 0 0] 27).alloc #[.slice none 0 0,.slice none 0 0,.slice none 0 0,.int .i64 g.start,.slice none 0 0] 27
 rw[hq,hrb,hob]at s2
 unfold Zc8.run
 simp -dsimp[go_sem,hq,hrb,hob,cs]
 generalize ((w.alloc (.cells #[.slice A1 g.terms.length c1,.slice A2 g.nons.length c2,.slice A3 g.levels.length c3,.int .i64 g.start,.slice A4 g.prods.length c4] 27)).alloc (.cells #[.slice none 0 0,.slice none 0 0,.slice none 0 0,.int .i64 0,.slice none 0 0] 27)).alloc (.cells #[.slice none 0 0,.slice none 0 0,.slice none 0 0,.int .i64 g.start,.slice none 0 0] 27)=W3 at s2 ⊢
 clear s1 cs hrb hob
 have y3:=s2.box 2 rfl
 have z3:=s2.box 0 rfl
 simp[Zp]at y3 z3
 simp -dsimp[go_sem,y3,z3]
 have s3:=((s2.nilRow 64 2).nilRow 9 1).nilRow 3 1
 have rdg:∀w',Chg noB w w'→Zcz.atN w' B (.agg #[.slice A1 g.terms.length c1,.slice A2 g.nons.length c2,.slice A3 g.levels.length c3,.int .i64 g.start,.slice A4 g.prods.length c4]) g:=fun w' hc=>Za2 h (hc.below hB fun _ _=>id)
 have bl:∀{w':World},Chg noB w w'→Below B w w':=fun hc=>hc.below hB fun _ _=>id
 refine s3.appendRd (r:=Zl1) (enc:=ZZ50) 3 rfl ZZ166 iTerm rfl (by decide) (Rep.below h1 (bl s3.chg)) (fun ⟨_,_,e,h2,h3⟩ _=>by obtain ⟨rfl,_⟩:=h2;obtain ⟨rfl,_⟩:=h3;exact e) (fun x _ u hu=>by simp[ZZ50]at hu;rcases hu with rfl | rfl<;>rfl) (fun _ _=>rfl) (by omega) (by omega) ?_
 intro At ct w4 s4
 rw[Nat.zero_add]at s4 ⊢
 have y4:=s4.box 2 rfl
 have z4:=s4.box 0 rfl
 simp[Zp]at y4 z4
 have s5:=s4.set 2 rfl 0 (.slice At g.terms.length ct)
 simp -dsimp[go_sem,y4,z4]
 generalize w4.setCell ⟨ob,0,none⟩ (.slice At g.terms.length ct)=w5 at s5 ⊢
 refine s5.appendRd (r:=rStr) (enc:=cStr) 4 rfl uStrs iStr rfl (by decide) (Rep.below h2 (bl s5.chg)) (fun h _=>h.1) (fun x _ u hu=>by simp[cStr]at hu;rcases hu with rfl | rfl<;>rfl) (fun _ _=>rfl) (by omega) (by omega) ?_
 intro An cn w6 s6
 rw[Nat.zero_add]at s6 ⊢
 have y6:=s6.box 2 rfl
 have z6:=s6.box 0 rfl
 simp[Zp]at y6 z6
 have s7:=s6.set 2 rfl 1 (.slice An g.nons.length cn)
 have y7:=s7.box 2 rfl
 have z7:=s7.box 0 rfl
 simp[Zp]at y7 z7
 simp -dsimp[go_sem,y6,z6]
 generalize w6.setCell ⟨ob,1,none⟩ (.slice An g.nons.length cn)=w7 at s7 ⊢
 refine s7.appendRd (r:=rInt) (enc:=cInt) 5 rfl Zqw iInt rfl (by decide) (Rep.below h3 (bl s7.chg)) (fun h _=>h.1) (fun x _ u hu=>by simp[cInt]at hu;rcases hu with rfl | rfl<;>rfl) (fun _ _=>rfl) (by omega) (by omega) ?_
 intro Al cl w8 s8
 rw[Nat.zero_add]at s8 ⊢
 have y8:=s8.box 2 rfl
 simp[Zp]at y8
 have s9:=s8.set 2 rfl 2 (.slice Al g.levels.length cl)
 simp -dsimp[go_sem,y8]
 generalize w8.setCell ⟨ob,2,none⟩ (.slice Al g.levels.length cl)=w9 at s9 ⊢
 have s10:St noB w w9 (CpL q rb ob g A1 c1 A2 c2 A3 c3 A4 c4 At ct An cn Al cl 0 none 0 []):=by
  have h1:=(s9.nilRow 50 3).push (c:=Zeg 3 1 [] []) ⟨rfl,fun i v xs h=>by simp at h⟩
  exact h1
 clear s2 s3 s4 s5 s6 s7 s8 s9 y4 z4 y6 z6 y8 y3 z3
 unfold Zc8.b4
 refine Zc8.l6_intro _ _ _ _ _ _ (fun y w'=>∃(k:Nat) (Ap:Option Addr) (cp:Nat) (vs:List Value),y = .int .i64 k∧k≤g.prods.length∧St noB w w' (CpL q rb ob g A1 c1 A2 c2 A3 c3 A4 c4 At ct An cn Al cl k Ap cp vs)) (fun y _=>g.prods.length-iv y) ⟨0,none,0,[],rfl,Nat.zero_le _,s10⟩ ?_
 rintro _ w10 ⟨k,Ap,cp,vs,rfl,hk,s11⟩ C hC
 have z11:=s11.box 0 rfl
 have y11:=s11.box 2 rfl
 simp[Zp]at z11 y11
 have hvs:vs.length=k:=by
  obtain ⟨F,ho,_⟩:=s11.get (k:=7) rfl
  have:=ho.1;simp at this;omega
 unfold Zc8.b7
 simp -dsimp[go_sem,z11]
 refine Za (fun p1=>?_) (fun p1=>?_)<;>simp at p1
 ·obtain ⟨bp,op,vr,ep,hbp,x1,x2,x3,hr,zl,zv⟩:=Zev (Rep.below h4 (bl s11.chg)) p1
  subst ep
  obtain ⟨Ar,cr,rfl,hr1,hr2,_⟩:=Zay hr
  have htk:g.prods.take (k+1)=g.prods.take k++[g.prods[k]]:=List.take_succ_eq_append_getElem p1
  have g5':=g5 _ (List.getElem_mem p1)
  have wk:=Zau p1 (by omega)
  have hbp1:bp<w10.heap.size:=by have:=s11.chg.size;omega
  generalize g.prods[k]=p at x1 x2 x3 hr zl zv hr1 hr2 htk g5' ⊢
  obtain ⟨pb,hpb⟩:∃pb,w10.heap.size=pb:=⟨_,rfl⟩
  have hcz:Chg noB w10 (w10.alloc (.cells #[.int .i64 0,.slice none 0 0,.int .i64 0] 50)):=(Chg.refl _ _).alloc _
  have s12:=s11.alloc #[.int .i64 0,.slice none 0 0,.int .i64 0] 50
  rw[hpb]at s12
  have z12:=(s12.box 0 rfl).1.2.2.2.2.1
  have x1z:=(hcz.cell (p:=⟨bp,op+k*3,none⟩) hbp1 id).trans x1
  have x3z:=(hcz.cell (p:=⟨bp,op+k*3+2,none⟩) hbp1 id).trans x3
  have sA:=s11.alloc #[.int .i64 p.1,.slice none 0 0,.int .i64 p.2.2] 50
  have zA:=(sA.box 0 rfl).1.2.2.2.2.1
  have hcA:Chg noB w10 (w10.alloc (.cells #[.int .i64 p.1,.slice none 0 0,.int .i64 p.2.2] 50)):=(Chg.refl _ _).alloc _
  have x2A:=(hcA.cell (p:=⟨bp,op+k*3+1,none⟩) hbp1 id).trans x2
  simp -dsimp[go_sem,z11,p1,x1,x2,x3,hpb,z12,x1z,x3z,zA,x2A]
  have s13:=(s11.alloc #[.int .i64 p.1,.slice none 0 0,.int .i64 p.2.2] 50).old (Chg.refl noB _).drew.drew
  rw[hpb]at s13
  generalize (w10.alloc (.cells #[.int .i64 p.1,.slice none 0 0,.int .i64 p.2.2] 50)).drew.drew=w13 at s13 ⊢
  have s14:=s13.nilRow 3 1
  have hrw:(Zo rInt).at1 w B (.slice Ar p.2.1.length cr) p.2.1:=(Zo rInt).keep hr (Nat.le_refl _) fun i hi=>(s11.chg.block i (by omega) id).symm
  refine s14.appendRd (r:=rInt) (enc:=cInt) 9 rfl Zqw iInt rfl (by decide) (Rep.below hrw (bl s14.chg)) (fun h _=>h.1) (fun x _ u hu=>by simp[cInt]at hu;rcases hu with rfl | rfl<;>rfl) (fun _ _=>rfl) (by omega) (by omega) ?_
  intro a15 c15 w15 s15
  rw[Nat.zero_add]at s15 ⊢
  have y15:=s15.box 8 rfl
  have o15:=s15.box 2 rfl
  simp[Zp]at y15 o15
  have s16:=s15.set 8 rfl 1 (.slice a15 p.2.1.length c15)
  have y16:=s16.box 8 rfl
  have o16:=s16.box 2 rfl
  simp[Zp]at y16 o16
  simp -dsimp[go_sem,y15,y16,o16]
  have hsz16:(w15.setCell ⟨pb,1,none⟩ (.slice a15 p.2.1.length c15)).heap.size=w15.heap.size:=by simp
  rw[←hsz16]
  generalize w15.setCell ⟨pb,1,none⟩ (.slice a15 p.2.1.length c15)=w16 at s16 ⊢
  refine s16.append1 6 rfl ZZ180 iProd rfl (by omega) (news:=[.int .i64 p.1,.slice a15 p.2.1.length c15,.int .i64 p.2.2]) rfl (by simp[Value.oneCell']) (by omega) (by omega) ?_
  intro g' cap w17 s17
  have y17:=s17.box 2 rfl
  simp[Zp]at y17
  have s18:=s17.set 2 rfl 4 (.slice (some ⟨g',0,none⟩) (k+1) cap)
  simp -dsimp[go_sem,y17,wk]
  have s19:=s18.merge (j:=9) (k:=7) rfl rfl (by omega) (e:=Zeg 3 1 (vs++[.slice a15 p.2.1.length c15]) (((g.prods.take k).map fun p=>p.2.1.flatMap cInt)++[p.2.1.flatMap cInt])) fun F F' h1 h2=>Zi3 (size:=1) h1 h2
  have e2:(((g.prods.take (k+1)).zip (vs++[.slice a15 p.2.1.length c15])).flatMap cPr)=(((g.prods.take k).zip vs).flatMap cPr)++[.int .i64 p.1,.slice a15 p.2.1.length c15,.int .i64 p.2.2]:=by
   rw[htk,List.zip_append (by simp[hvs];omega),List.flatMap_append]
   simp[cPr]
  have e3:((g.prods.take (k+1)).map fun p=>p.2.1.flatMap cInt)=((g.prods.take k).map fun p=>p.2.1.flatMap cInt)++[p.2.1.flatMap cInt]:=by rw[htk,List.map_append];rfl
  refine hC _ _ ⟨k+1,some ⟨g',0,none⟩,cap,vs++[.slice a15 p.2.1.length c15],by simp,by omega,?_⟩ (by simp[iv];omega)
  have:=s19.take 8
  rw[←e2,←e3]at this
  exact this
 ·have hkl:k=g.prods.length:=by omega
  subst hkl
  unfold Zc8.b3
  have y2:=s11.box 1 rfl
  simp[Zp]at y2
  have s12:=((((s11.set 1 rfl 0 (.slice At g.terms.length ct)).set 1 rfl 1 (.slice An g.nons.length cn)).set 1 rfl 2 (.slice Al g.levels.length cl)).set 1 rfl 3 (.int .i64 g.start)).set 1 rfl 4 (.slice Ap g.prods.length cp)
  have y12:=s12.box 1 rfl
  simp[Zp]at y12
  simp -dsimp[go_sem,y11,y2,y12]
  refine hR _ _ ?_
  generalize (((((w10.setCell ⟨rb,0,none⟩ (.slice At g.terms.length ct)).setCell ⟨rb,1,none⟩ (.slice An g.nons.length cn)).setCell ⟨rb,2,none⟩ (.slice Al g.levels.length cl)).setCell ⟨rb,3,none⟩ (.int .i64 g.start)).setCell ⟨rb,4,none⟩ (.slice Ap g.prods.length cp))=w12 at s12 ⊢
  have tz:∀i (hi:i<g.terms.length),g.terms[i].1.size≤maxLen∧Zz g.terms[i].2:=fun i hi=>by obtain ⟨_,_,_,_,_,_,q1,q2⟩:=Zdw h1 hi;exact ⟨q1,q2⟩
  have nz:∀i (hi:i<g.nons.length),g.nons[i].size≤maxLen:=fun i hi=>by obtain ⟨_,_,_,_,_,q1⟩:=Go.Px.strs_at h2 hi;exact q1
  have lz:∀i (hi:i<g.levels.length),Zz g.levels[i]:=fun i hi=>by obtain ⟨_,_,_,_,_,q1⟩:=Go.Px.ints_at h3 hi;exact q1
  have s13:=s12.pick [3,4,5,6,7] (L':=[rowC 64 2 At g.terms.length ct (g.terms.flatMap ZZ50),rowC 9 1 An g.nons.length cn (g.nons.flatMap cStr),rowC 3 1 Al g.levels.length cl (g.levels.flatMap cInt),
   rowC 50 3 Ap g.prods.length cp (((g.prods.take g.prods.length).zip vs).flatMap cPr),Zeg 3 1 vs ((g.prods.take g.prods.length).map fun p=>p.2.1.flatMap cInt)]) (by decide) rfl
  have e1:g.nons.flatMap cStr=g.nons.map Value.string:=Zfu _ _
  have e2:(fun p:Int×List Int×Int=>p.2.1.flatMap cInt)=fun p=>p.2.1.map (fun x=>Value.int .i64 x):=by funext p;exact Zrj _
  rw[List.take_length,e1,Zrj,e2]at s13
  refine ⟨At,ct,An,cn,Al,cl,Ap,cp,vs,rfl,s13,fun x hx=>?_,fun x hx=>?_,fun x hx=>?_,hst,fun x hx=>?_⟩
  ·obtain ⟨i,hi,rfl⟩:=List.getElem_of_mem hx;exact tz i hi
  ·obtain ⟨i,hi,rfl⟩:=List.getElem_of_mem hx;exact nz i hi
  ·obtain ⟨i,hi,rfl⟩:=List.getElem_of_mem hx;exact lz i hi
  ·obtain ⟨i,hi,rfl⟩:=List.getElem_of_mem hx
   obtain ⟨_,_,_,_,_,_,_,_,hr,zl,zv⟩:=Zev h4 hi
   refine ⟨zl,fun x hx=>?_,zv⟩
   obtain ⟨j,hj,rfl⟩:=List.getElem_of_mem hx
   obtain ⟨A5,c5,e5,_⟩:=Zay hr
   rw[e5]at hr
   obtain ⟨_,_,_,_,_,q1⟩:=Go.Px.ints_at hr hj
   exact q1
end Go.Proofs.YtckbgeedlobfaaaGreatDoor
namespace Go.Proofs.YtckbgeedlobfaaaGreatDoor
open Go.Px Go.Px.Scan Go.Px.Spec Go.RowKit
attribute [-go_sem] Builtin.append_ Zb.b4 Zb.b4_1 Zb.b4_2 Zb.b10 Zb.b15 Zb.b15_1 Zb.b14 Zb.b14_1 Zb.b14_2 Zb.b14_3 Zb.b14_4 Zb.b14_5 Zb.b14_6 Zb.b14_7 Zb.b14_8 Zb.b19 Zb.b19_1 Zb.b19_2 Zb.b16 Zb.b12 Zb.b12_1
section
variable {G:Nat→Prop} {W w:World} {R:EP} {C7:VP} {bm bb b p n q:Nat} {S:BS} {lv:Int→Int} {A Al:Option Addr} {c cl:Nat} {ws:List Wd} {e:Int} {i:Nat} {hs:List (Nat×List ByteArray)} {st:ByteArray} {ls:List ByteArray} {rs:List RowS} {D:RD} {l:List Int} {x84:Value} {bx:Ch}
theorem ZZ102 {k:Nat}{u0 u1 u2:Value}{h:Int}{said:Nat}(hh:Zz h)
  (s:St G W w (mkL bm bb b S (.map (some p)) n lv A c ws e i hs st ls rs D++[boxC q 124 [u0,u1,u2,.bool (decide (said=2))]]))
  (hK:∀w',St G W w' (mkL bm bb b (if said=2 then (Ze0 S 0 [h]).2 else S) (.map (some p)) n lv A c ws e i hs st ls rs D)→Zb.b10 R C7 x84 w') :
  Zb.b15 R C7 (.pointer (some ⟨bm,0,none⟩)) (.pointer (some ⟨q,0,none⟩)) (.int .i64 h) x84 w:=by
 have yq:=(s.box 11 rfl).1
 have ym:=(s.box 0 rfl).1
 simp[Zp]at yq ym
 unfold Zb.b15
 simp -dsimp[go_sem,yq]
 refine Za (fun h1=>?_) (fun h1=>?_)<;>simp at h1
 ·have s1:=s.lit 3 1 1 #[.int .i64 h] (by simp[maxLen]) rfl
  unfold Zb.b15_1
  simp -dsimp[go_sem,ym]
  refine Zo6 s1 1 rfl (by simp[Zz]) (Zp3.row (j:=12) (l:=[h]) rfl (by omega) fun x hx=>by rw[List.mem_singleton.1 hx];exact hh) fun w2 s2=>?_
  refine hK _ ?_
  rw[if_pos h1]
  exact s2.take 11
 ·refine hK _ ?_
  rw[if_neg h1]
  exact s.take 11
theorem ZZ74 {u0 u1 u3:Value}{h:Int}{t:ByteArray}(hh:Zz h)(ht:t.size≤maxLen)(hlv:∀t,0≤lv t∧lv t≤65)
  (s:St G W w (mkL bm bb b S (.map (some p)) n lv A c ws e i hs st ls rs D++[boxC q 124 [u0,u1,.string t,u3]]))
  (hK:∀S' w',Ztd lv (h,S) t = .ok S'→St G W w' (mkL bm bb b S' (.map (some p)) n lv A c ws e i hs st ls rs D++[boxC q 124 [u0,u1,.string t,u3]])→Zb.b15 R C7 (.pointer (some ⟨bm,0,none⟩)) (.pointer (some ⟨q,0,none⟩)) (.int .i64 h) x84 w')
  (hX:∀e,Ztd lv (h,S) t = .error e→∀w',Chg G W w'→R (.panicked (errP e)) w') :
  Zb.b14_7 R C7 (.pointer (some ⟨bm,0,none⟩)) (.map (some p)) (.pointer (some ⟨q,0,none⟩)) x84 (.int .i64 h) w:=by
 have yq:=(s.box 11 rfl).1
 have ym:=(s.box 0 rfl).1
 simp[Zp]at yq ym
 unfold Zb.b14_7
 simp -dsimp[go_sem,yq]
 refine Za (fun h1=>?_) (fun h1=>?_)<;>simp at h1
 ·have hne:t≠noT:=fun e=>h1 (Zhs.2 e)
  have hp:Ztd lv (h,S) t=(do let r ←en (Zc4 S t);pure (Ze0 r.2 (lv r.1) [h]).2):=by unfold Ztd;rw[if_neg hne]
  have ha:∀x∈[h],Zz x:=fun x hx=>by rw[List.mem_singleton.1 hx];exact hh
  have sd:=s.old (Chg.refl noB w).drew
  obtain ⟨ok,_⟩:=Zn6 s 1 rfl
  have hr:=Zj2 ok t
    -- behind the error's test: the level is looked up, the production is graded
  have fin:∀w1 cc g,(Zc4 S t).2.1=0→St G W w1 (mkL bm bb b (Zc4 S t).2.2 (.map (some p)) n lv A c ws e i hs st ls rs D++[boxC q 124 [u0,u1,.string t,u3],rowC 3 1 (some ⟨g,0,none⟩) 1 cc [.int .i64 h]]) →
    CALL Tryz.prog (pan R) Zaf.id #[.pointer (some ⟨bb,0,none⟩),.int .i64 (lv (Zc4 S t).1),.slice (some ⟨g,0,none⟩) 1 cc] w1 fun _ w2=>Zb.b15 R C7 (.pointer (some ⟨bm,0,none⟩)) (.pointer (some ⟨q,0,none⟩)) (.int .i64 h) x84 w2:=fun w1 cc g he s1=>by
   refine Zo6 s1 1 rfl (by have:=hlv (Zc4 S t).1;unfold Zz;omega) (Zp3.row (j:=12) (l:=[h]) rfl (by omega) ha) fun w2 s2=>?_
   refine hK _ _ ?_ (s2.take 12)
   rw[hp,Zpc he];rfl
  have fX:∀w1,(Zc4 S t).2.1≠0→Chg G W w1→R (.panicked (errP (Zc4 S t).2.1)) w1:=fun w1 he hc=>hX _ (by rw[hp,Zwm he];rfl) _ hc
  unfold Zb.b14_6
  simp -dsimp[go_sem,yq,ym]
  refine ⟨?_,?_⟩
  ·refine Zkl sd 1 rfl ht fun w2 s2=>?_
   have ym2:=(s2.box 0 rfl).1
   simp[Zp]at ym2
   have lk:(Instr.lookup 116 (.map (some p)) (.int .i64 (Zc4 S t).1) false).run Tryz.prog w2 = .ok (.int .i64 (lv (Zc4 S t).1)) w2:=s2.mapGet mInt 2 rfl (Zc4 S t).1 (show Zz _ by unfold Zz;omega)
   unfold Zb.b14_3
   have s3:=s2.lit 3 1 1 #[.int .i64 h] (by simp[maxLen]) rfl
   obtain ⟨w3,hw3⟩:∃w3,w2.alloc (.cells #[.int .i64 h] 3)=w3:=⟨_,rfl⟩
   rw[hw3]at s3
   have ym3:=(s3.box 0 rfl).1.1
   have lk3:(Instr.lookup 116 (.map (some p)) (.int .i64 (Zc4 S t).1) false).run Tryz.prog w3 = .ok (.int .i64 (lv (Zc4 S t).1)) w3:=s3.mapGet mInt 2 rfl (Zc4 S t).1 (show Zz _ by unfold Zz;omega)
   simp -dsimp[go_sem,ym2,hw3,ym3]
   refine ⟨?_,?_⟩
   ·refine Zdm (fun he=>?_) (fun he=>fX _ he s2.chg)
    unfold Zb.b14_1
    simp -dsimp[go_sem,ym2,lk,hw3,ym3,lk3]
    exact fin _ _ _ he s3
   ·refine Zdm (fun he=>?_) (fun he=>fX _ he s3.chg)
    unfold Zb.b14_2
    simp -dsimp[go_sem,ym3,lk3]
    exact fin _ _ _ he s3
  ·have s3:=s.lit 3 1 1 #[.int .i64 h] (by simp[maxLen]) rfl
   obtain ⟨w3,hw3⟩:∃w3,w.alloc (.cells #[.int .i64 h] 3)=w3:=⟨_,rfl⟩
   rw[hw3]at s3 ⊢
   have ym3:=(s3.box 0 rfl).1.1
   have yq3:w3.cell? ⟨q,2,none⟩=some (.string t):=(s3.box 11 rfl).1.2.2.1
   simp -dsimp[go_sem,ym3,yq3]
   refine Zkl (s3.old (Chg.refl noB w3).drew) 1 rfl ht fun w4 s4=>?_
   have ym4:=(s4.box 0 rfl).1.1
   have lk4:(Instr.lookup 116 (.map (some p)) (.int .i64 (Zc4 S t).1) false).run Tryz.prog w4 = .ok (.int .i64 (lv (Zc4 S t).1)) w4:=s4.mapGet mInt 2 rfl (Zc4 S t).1 (show Zz _ by unfold Zz;omega)
   unfold Zb.b14_5
   simp -dsimp[go_sem,ym4]
   refine Zdm (fun he=>?_) (fun he=>fX _ he s4.chg)
   unfold Zb.b14_4
   simp -dsimp[go_sem,ym4,lk4]
   exact fin _ _ _ he s4
 ·have hne:t=noT:=Zhs.1 h1
  exact hK S _ (by unfold Ztd;rw[if_pos hne];rfl) s
theorem Zxe {S S':BS}{x:Wd}{h:Int}(ok:BSok S)(he:symM ls S x = .ok (h,S')) : -65≤h∧h≤65:=by
 unfold symM at he
 have h1:=Zj2 ok x.2.1
 have h2:=Zk6 ok x.2.1
 split at he
 ·have:=(en_ok he).2;injection this with e1 _;omega
 ·have:=(en_ok he).2;injection this with e1 _;omega
theorem Zy3 {k:Nat}{a:Option Addr}{ca:Nat}{left:Int}(hk:k<rs.length)(mb:MB hs rs st)(hlv:∀t,0≤lv t∧lv t≤65)(hv:D.us[k]?=some (.slice a rs[k].words.length ca))(hleft:Zz left)
  (s:St G W w (mkL bm bb b S (.map (some p)) n lv A c ws e i hs st ls rs D++[boxC q 124 [.string rs[k].left,.slice a rs[k].words.length ca,.string rs[k].by_,.bool (decide (rs[k].said=2))]]))
  {T:Except Int BS} (hT:T=(do let z ←rs[k].words.foldlM (symF ls) ([],S);let n ←en (Zez z.2 left z.1);endF lv rs[k].by_ rs[k].said n))
  (hK:∀S' w',T = .ok S'→St G W w' (mkL bm bb b S' (.map (some p)) n lv A c ws e i hs st ls rs D)→Zb.b10 R C7 x84 w')
  (hX:∀e,T = .error e→∀w',Chg G W w'→R (.panicked (errP e)) w') :
  Zb.b16 R C7 (.pointer (some ⟨bm,0,none⟩)) (.map (some p)) (.pointer (some ⟨q,0,none⟩)) (.int .i64 left) (.slice none 0 0) x84 w:=by
 have hwl:=mb.wl _ (List.getElem_mem hk)
 have yq:=(s.box 11 rfl).1
 simp[Zp]at yq
 unfold Zb.b16
 simp -dsimp[go_sem,yq]
 refine Zb.l18_intro _ _ _ _ _ _ _ _ _ _ _ _ (fun x y w'=>∃(j:Nat) (Al:Option Addr) (cl:Nat) (l:List Int) (S1:BS),y = .int .i64 j∧x = .slice Al l.length cl∧j≤rs[k].words.length∧l.length=j∧(∀h∈l,Zz h) ∧
   T=(do let z ←(rs[k].words.drop j).foldlM (symF ls) (l,S1);let n ←en (Zez z.2 left z.1);endF lv rs[k].by_ rs[k].said n) ∧
   St G W w' (mkL bm bb b S1 (.map (some p)) n lv A c ws e i hs st ls rs D++[boxC q 124 [.string rs[k].left,.slice a rs[k].words.length ca,.string rs[k].by_,.bool (decide (rs[k].said=2))],rowC 3 1 Al l.length cl (l.map (Value.int .i64 ·))])) (fun _ y _=>rs[k].words.length-iv y)
   ⟨0,none,0,[],S,rfl,rfl,by omega,rfl,by simp,hT,by have:=s.nilRow 3 1;simpa[mkL]using this⟩ ?_
 rintro _ _ w1 ⟨j,Al,cl,l,S1,rfl,rfl,hj,hlj,hl,hg,s1⟩ C18 hC
 unfold Zb.b19
 simp -dsimp[go_sem]
 refine Za (fun h1=>?_) (fun h1=>?_)<;>simp at h1
 ·obtain ⟨g,rfl,c0,c1,c2⟩:=wx_at s1 10 rfl hk hv h1
  have wj:IntKind.i64.wrap ((j:Int)+1)=(j:Int)+1:=IntWalk.i64_in _ (by omega)
  obtain ⟨ok,_⟩:=Zn6 s1 1 rfl
  rw[List.drop_eq_getElem_cons h1,List.foldlM_cons]at hg
  have hx:=mb.wx _ (List.getElem_mem hk) _ (List.getElem_mem h1)
  generalize hxe:rs[k].words[j]=x at c0 c1 c2 hg hx
  have hc2:Chg noB w1 (w1.alloc (.cells #[.int .i64 x.1,.string x.2.1,.int .i64 x.2.2] 73)):=(Chg.refl noB w1).alloc _
  have ht:=new3 (w:=w1) x
  unfold Zb.b19_2
  simp -dsimp[go_sem,h1,Nat.not_le.2 h1,c0,c1,c2]
  generalize w1.alloc (.cells #[.int .i64 x.1,.string x.2.1,.int .i64 x.2.2] 73)=w2 at hc2 ht ⊢
  generalize w1.heap.size=q9 at ht ⊢
  have d0:=ht.c0
  have d1:=ht.c1
  have d2:=ht.c2
  have s2:=s1.old hc2
  refine Zgj (Zzi (x:=x) s2 0 rfl 1 rfl 3 rfl 8 rfl hx) ?_
  rintro r w3 (⟨⟨hd,S2⟩,he,rfl,s3⟩|⟨e',he,rfl,hc⟩)
  ·have hr:=Zxe ok he
   have hg2:T=(do let z ←(rs[k].words.drop (j+1)).foldlM (symF ls) (l++[hd],S2);let n ←en (Zez z.2 left z.1);endF lv rs[k].by_ rs[k].said n):=by rw[hg,symF,he];rfl
   show Zb.b19_1 R C18 (.slice Al l.length cl) (.int .i64 j) (.int .i64 hd) w3
   unfold Zb.b19_1
   simp -dsimp[go_sem]
   refine s3.append1 12 rfl Zqw iInt rfl (by omega) (news:=[.int .i64 hd]) rfl (by simp[Value.oneCell']) (by unfold maxLen;omega) (by unfold Zr;omega) ?_
   intro g' cap w4 s4
   simp -dsimp[go_sem,wj]
   refine hC _ _ _ ⟨j+1,some ⟨g',0,none⟩,cap,l++[hd],S2,by simp,by simp,h1,by simp[hlj],fun h hh=>?_,hg2,?_⟩ (by simp[iv];omega)
   ·rcases List.mem_append.1 hh with hh|hh
    ·exact hl h hh
    ·rw[List.mem_singleton.1 hh];unfold Zz;omega
   ·simpa[mkL,rdL]using s4
  ·exact hX e' (by rw[hg,symF,he];rfl) _ hc
 ·have hja:j=rs[k].words.length:=by omega
  rw[hja,List.drop_length]at hg
  have hg':T=(do let n ←en (Zez S1 left l);endF lv rs[k].by_ rs[k].said n):=hg
  have ym:=(s1.box 0 rfl).1
  simp[Zp]at ym
  obtain ⟨ok,_⟩:=Zn6 s1 1 rfl
  have hr:=Zuj ok left l
  unfold Zb.b14
  simp -dsimp[go_sem,ym]
  refine ZZ14 s1 1 rfl hleft (Zl8 s1 12 rfl hl) (by unfold Zr;omega) fun w2 s2=>?_
  unfold Zb.b14_8
  simp -dsimp[go_sem]
  refine Zdm (fun h2=>?_) (fun h2=>hX _ (by rw[hg',Zwm h2];rfl) _ s2.chg)
  rw[Zpc h2]at hg'
  have s3:=s2.take 12
  refine ZZ74 (S:=(Zez S1 left l).2.2) (by unfold Zz;omega) (mb.by_ _ (List.getElem_mem hk)) hlv s3 (fun S' w4 he s4=>?_) (fun e' he w4 hc=>hX e' (by rw[hg'];show endF lv _ _ _=_;unfold endF;rw[he];rfl) w4 hc)
  refine ZZ102 (k:=k) (by unfold Zz;omega) s4 fun w5 s5=>hK _ w5 ?_ s5
  rw[hg'];show endF lv _ _ _=_;unfold endF;rw[he];rfl
end
end Go.Proofs.YtckbgeedlobfaaaGreatDoor
