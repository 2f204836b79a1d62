/-
  Texts of this claim: Rk6, Rk7, Rn1, Pl1, Pl2, Pl3.
-/
import Derived.Test.YtckbgeedlobfaaaDoorY22
import Derived.Test.YtckbgeedlobfaaaDoorY20
import Derived.Test.YtckbgeedlobfaaaDoorY21
set_option maxHeartbeats 1000000
set_option linter.unusedSimpArgs false
set_option linter.unusedVariables false
set_option maxRecDepth 100000
/-
  The document's text: word.
-/
namespace Go.Px.Spec
open Go.Px Go.Px.Scan
end Go.Px.Spec
namespace Go.Proofs.YtckbgeedlobfaaaDoor
open Go.Px Go.Px.Scan Go.Px.Spec Go.RowKit
attribute [-go_sem] Builtin.append_

section
variable {G F:Nat→Prop} {W w w1:World} {R:EP} {tb:Nat} {x:Rx} {D:TD} {m:Mc}

/-- A step that is called. -/
theorem XEnd.call {f:FuncId} {args:Array Value} {o:Option Rx} (s:St G W w (txL tb x D)) (h:∀F,St F w w (txL tb x D)→Ct Tryd.prog f args w (XEnd F w tb o)):Ct Tryd.prog f args w (XEnd G W tb o):=by
 obtain ⟨F,ho,hF,hs'⟩:=s.group.opn (k:=0) (c0:=Ch.all (txL tb x D)) rfl
 refine (h F (St.enter ho)).mono ?_
 intro v w' he
 unfold XEnd at he ⊢
 cases o with
 | none =>
  obtain ⟨hv,x',D',s'⟩:=he
  exact ⟨hv,x',D',St.flat (L:=[]) (L':=txL tb x' D') (hs' w' (Ch.all (txL tb x' D')) s'.chg s'.leave)⟩
 | some x' =>
  obtain ⟨rfl,D',s'⟩:=he
  exact ⟨rfl,D',St.flat (L:=[]) (L':=txL tb x' D') (hs' w' (Ch.all (txL tb x' D')) s'.chg s'.leave)⟩

end
end Go.Proofs.YtckbgeedlobfaaaDoor

/-
  The document's Take.
-/
namespace Go.Proofs.YtckbgeedlobfaaaDoor
open Go.Px Go.Px.Scan Go.Px.Spec Go.RowKit
attribute [-go_sem] Builtin.append_

section
variable {G:Nat→Prop} {W w w1:World} {R:EP} {tb q2:Nat} {x:Rx} {D:TD} {m:Mc} {L:List Ch}

theorem bTx (A:Option Addr) (n c:Nat) (w:World):(Instr.build 69 #[(2,.slice A n c)]).run Tryd.prog w = .ok (.agg #[.int .i64 0,.int .i64 0,.slice A n c,.slice none 0 0,.slice none 0 0,.string ⟨#[]⟩,.slice none 0 0,.string ⟨#[]⟩]) w:=by simp [go_sem]
theorem bTm0 (w:World):(Instr.build 39 #[]).run Tryd.prog w = .ok (.agg #[.string ⟨#[]⟩,.int .i64 0]) w:=by simp [go_sem]
attribute [go_sem ↓] bTx bTm0

end
end Go.Proofs.YtckbgeedlobfaaaDoor

/-
  The document's text, read: isNon, non, symbol.
-/
namespace Go.Px.Spec
open Go.Px Go.Px.Scan
def isNonX (ls:List ByteArray) (w:Wd):Bool:=hasB ls w.2.1 && decide (w.1=1)
/-- A nonterminal's symbol. -/
def nonX (n:Nat) (ls:List ByteArray) (s:ByteArray):Int:=if posN ls s<ls.length then (n:Int)+posN ls s else -1
def symX (ts:List (ByteArray×Int)) (ls:List ByteArray) (w:Wd):Int:=if isNonX ls w then nonX ts.length ls w.2.1 else posI ts w.2.1
end Go.Px.Spec
namespace Go.Proofs.YtckbgeedlobfaaaDoor
open Go.Px Go.Px.Scan Go.Px.Spec Go.RowKit
attribute [-go_sem] Builtin.append_

section
variable {G:Nat→Prop} {W w w1:World} {R:EP} {tb:Nat} {x:Rx} {D:TD} {L:List Ch} {us:List Value} {c0:Ch}

end
end Go.Proofs.YtckbgeedlobfaaaDoor

/-
  The maker against the document, plainly: symbols are put.
-/
namespace Go.Px.Spec
open Go.Px Go.Px.Scan
/-- A computation that goes through if q, with a; else it ends with 'too big'. -/
def Run {α:Type} (c:Except Int α) (q:Prop) (a:α):Prop:=(q∧c = .ok a)∨(¬q∧c = .error 11)
theorem Run.bind {α β:Type} {c:Except Int α} {p q:Prop} {a:α} {f:α→Except Int β} {b:β} (h:Run c p a) (hf:p→Run (f a) q b) (hqp:q→p):Run (c >>= f) q b:=by
 rcases h with ⟨hp,rfl⟩ | ⟨hp,rfl⟩
 ·exact hf hp
 ·exact .inr ⟨fun hq=>hp (hqp hq),rfl⟩
theorem Run.pure {α:Type} {q:Prop} (hq:q) (a:α):Run (Except.ok a) q a := .inl ⟨hq,rfl⟩
theorem Run.cast {α:Type} {c:Except Int α} {p q:Prop} {a b:α} (h:Run c p a) (hpq:p↔q) (hab:a=b):Run c q b:=by
 subst hab
 rcases h with ⟨hp,e⟩ | ⟨hp,e⟩
 ·exact .inl ⟨hpq.1 hp,e⟩
 ·exact .inr ⟨fun hq=>hp (hpq.2 hq),e⟩

/-- Small enough. -/
def Q (S:BS):Prop:=S.terms.length+S.nons.length≤64∧S.rules.length≤96
def addT (S:BS) (t:ByteArray):BS:=if hasB (S.terms.map (·.1)) t then S else {S with terms:=S.terms++[(t,0)] }
def addN (S:BS) (s:ByteArray):BS:=if hasB S.nons s then S else {S with nons:=S.nons++[s] }
theorem addT_terms (S:BS) (t:ByteArray):(addT S t).terms=putT S.terms t 0:=by unfold addT putT;simp only [if_true];split <;> rfl
theorem addT_other (S:BS) (t:ByteArray):(addT S t).nons=S.nons∧(addT S t).levels=S.levels∧(addT S t).rules=S.rules∧(addT S t).start=S.start:=by unfold addT;split <;> exact ⟨rfl,rfl,rfl,rfl⟩
theorem addN_other (S:BS) (t:ByteArray):(addN S t).terms=S.terms∧(addN S t).levels=S.levels∧(addN S t).rules=S.rules∧(addN S t).start=S.start:=by unfold addN;split <;> exact ⟨rfl,rfl,rfl,rfl⟩
theorem addN_nons (S:BS) (t:ByteArray):(addN S t).nons=addB S.nons t:=by unfold addN addB;split <;> rfl
theorem addB_len (a:List ByteArray) (x:ByteArray):a.length≤(addB a x).length:=by unfold addB;split <;> simp
theorem putT_le (ts:List (ByteArray×Int)) (t:ByteArray) (n:Nat):ts.length≤(putT ts t n).length:=by
 have:=congrArg List.length (putT_names ts t n)
 have h:=addB_len (ts.map (·.1)) t
 simp only [List.length_map] at this h
 omega
theorem Q_addT {S:BS} {t:ByteArray} (h:Q (addT S t)):Q S:=by
 obtain ⟨h1,h2⟩:=h
 have:=addT_other S t
 rw [addT_terms,this.1] at h1
 rw [this.2.2.1] at h2
 have:=putT_le S.terms t 0
 exact ⟨by omega,h2⟩
theorem posN_app {l:List ByteArray} {s:ByteArray} (h:s∈l) (r:List ByteArray):posN (l++r) s=posN l s:=by
 induction l with
 | nil=>cases h
 | cons x l ih =>
  rw [List.cons_append,posN,posN]
  by_cases hx:x=s
  ·rw [if_pos hx,if_pos hx]
  ·rw [if_neg hx,if_neg hx,ih (by rcases List.mem_cons.1 h with h | h;exact absurd h.symm hx;exact h)]
theorem posH_app {l:List ByteArray} {s:ByteArray} (h:s∈l) (r:List ByteArray):posH (l++r) s=posH l s:=by
 unfold posH
 rw [posN_app h,if_pos (by have:=(posN_in h).1;simp;omega),if_pos (posN_in h).1]
theorem posH_mem {l:List ByteArray} {s:ByteArray} (h:s∈l):posH l s=(posN l s:Int)+1:=by unfold posH;rw [if_pos (posN_in h).1]
theorem posH_new {l:List ByteArray} {s:ByteArray} (h:s∉l):posH (l++[s]) s=(l.length:Int)+1:=by
 rw [posH_mem (by simp),posN_snoc,if_neg (by rw [posN_no h];omega),if_pos rfl]
/-- Names that came are kept. -/
def Ext (l l':List ByteArray):Prop:=∃r,l'=l++r
theorem Ext.refl (l:List ByteArray):Ext l l:=⟨[],by simp⟩
theorem Ext.trans {a b c:List ByteArray} (h:Ext a b) (k:Ext b c):Ext a c:=by obtain ⟨r,rfl⟩:=h;obtain ⟨q,rfl⟩:=k;exact ⟨r++q,by simp⟩
theorem Ext.addB (l:List ByteArray) (x:ByteArray):Ext l (addB l x):=by unfold Spec.addB;split;exact Ext.refl l;exact ⟨[x],rfl⟩
theorem Ext.mem {l l':List ByteArray} {x:ByteArray} (h:Ext l l') (hx:x∈l):x∈l':=by obtain ⟨r,rfl⟩:=h;simp [hx]
theorem Ext.posH {l l':List ByteArray} {x:ByteArray} (h:Ext l l') (hx:x∈l):posH l' x=posH l x:=by obtain ⟨r,rfl⟩:=h;exact posH_app hx r
end Go.Px.Spec
namespace Go.Proofs.YtckbgeedlobfaaaDoor
open Go.Px Go.Px.Scan Go.Px.Spec Go.RowKit

theorem run_term {S:BS} {t:ByteArray} (ht:TermP t) (hq:Q S):Run (en (termA S t)) (Q (addT S t)) (posH ((addT S t).terms.map (·.1)) t,addT S t):=by
 have hb:tmB t=true:=tmB_iff.2 ht
 unfold termA
 rw [if_neg (by rw [hb];decide)]
 by_cases hm:t∈S.terms.map (·.1)
 ·have h0:posH (S.terms.map (·.1)) t≠0:=fun h=>posH_zero.1 h hm
  have e:addT S t=S:=by unfold addT;rw [if_pos (hasB_iff.2 hm)]
  rw [if_pos h0,e]
  exact .inl ⟨hq,rfl⟩
 ·have h0:¬posH (S.terms.map (·.1)) t≠0:=fun h=>h (posH_zero.2 hm)
  have e:addT S t={S with terms:=S.terms++[(t,0)] }:=by unfold addT;rw [if_neg (fun h=>hm (hasB_iff.1 h))]
  rw [if_neg h0,e]
  by_cases hs:64≤S.terms.length+S.nons.length
  ·rw [if_pos hs]
   exact .inr ⟨fun h=>by have:=h.1;simp at this;omega,rfl⟩
  ·rw [if_neg hs]
   refine .inl ⟨⟨by simp;omega,hq.2⟩,?_⟩
   show Except.ok _=Except.ok _
   rw [List.map_append,List.map_singleton,posH_new hm,List.length_map]

theorem run_non {S:BS} {t:ByteArray} (ht:NameP t) (hq:Q S):Run (en (nonA S t)) (Q (addN S t)) (-posH (addN S t).nons t,addN S t):=by
 have hb:nmB t=true:=nmB_iff.2 ht
 unfold nonA
 rw [if_neg (by rw [hb];decide)]
 by_cases hm:t∈S.nons
 ·have h0:posH S.nons t≠0:=fun h=>posH_zero.1 h hm
  have e:addN S t=S:=by unfold addN;rw [if_pos (hasB_iff.2 hm)]
  rw [if_pos h0,e]
  exact .inl ⟨hq,rfl⟩
 ·have h0:¬posH S.nons t≠0:=fun h=>h (posH_zero.2 hm)
  have e:addN S t={S with nons:=S.nons++[t] }:=by unfold addN;rw [if_neg (fun h=>hm (hasB_iff.1 h))]
  rw [if_neg h0,e]
  by_cases hs:64≤S.terms.length+S.nons.length
  ·rw [if_pos hs]
   exact .inr ⟨fun h=>by have:=h.1;simp at this;omega,rfl⟩
  ·rw [if_neg hs]
   refine .inl ⟨⟨by simp;omega,hq.2⟩,?_⟩
   show Except.ok _=Except.ok _
   rw [posH_new hm]
end Go.Proofs.YtckbgeedlobfaaaDoor

/-
  The maker's headers, plainly.
-/
namespace Go.Px.Spec
open Go.Px Go.Px.Scan
theorem Q_foldT {ts:List ByteArray}:∀{S:BS},Q (ts.foldl addT S)→Q S:=by
 induction ts with
 | nil=>exact fun h=>h
 | cons t ts ih=>exact fun h=>Q_addT (ih h)
theorem foldT_terms (ts:List ByteArray):∀S:BS,(ts.foldl addT S).terms=ts.foldl (fun u t=>putT u t 0) S.terms:=by
 induction ts with
 | nil=>exact fun _=>rfl
 | cons t ts ih=>intro S;rw [List.foldl_cons,ih,addT_terms];rfl
theorem foldT_other (ts:List ByteArray):∀S:BS,(ts.foldl addT S).nons=S.nons∧(ts.foldl addT S).levels=S.levels∧(ts.foldl addT S).rules=S.rules∧(ts.foldl addT S).start=S.start:=by
 induction ts with
 | nil=>exact fun _=>⟨rfl,rfl,rfl,rfl⟩
 | cons t ts ih=>intro S;rw [List.foldl_cons];have h1:=ih (addT S t);have h2:=addT_other S t;rw [h1.1,h1.2.1,h1.2.2.1,h1.2.2.2];exact h2
theorem Ext.addT (S:BS) (t:ByteArray):Ext (S.terms.map (·.1)) ((addT S t).terms.map (·.1)):=by rw [addT_terms,putT_names];exact Ext.addB _ _
theorem mem_addT (S:BS) (t:ByteArray):t∈(addT S t).terms.map (·.1):=by rw [addT_terms,putT_names];exact mem_addB.2 (Or.inr rfl)
theorem mem_addN (S:BS) (t:ByteArray):t∈(addN S t).nons:=by rw [addN_nons];exact mem_addB.2 (Or.inr rfl)
theorem Ext.foldT (ts:List ByteArray):∀S:BS,Ext (S.terms.map (·.1)) ((ts.foldl Spec.addT S).terms.map (·.1)):=by
 induction ts with
 | nil=>exact fun _=>Ext.refl _
 | cons t ts ih=>exact fun S=>(Ext.addT S t).trans (ih _)
theorem names_put (l:List ByteArray) (n:Nat):∀ts:List (ByteArray×Int),(l.foldl (fun u t=>putT u t n) ts).map (·.1)=l.foldl addB (ts.map (·.1)):=by
 induction l with
 | nil=>exact fun _=>rfl
 | cons t l ih=>intro ts;rw [List.foldl_cons,ih,putT_names];rfl
/-- Terminals are alike where their names and levels are. -/
theorem tm_ext {a b:List (ByteArray×Int)} (hn:a.map (·.1)=b.map (·.1)) (hd:(a.map (·.1)).Nodup) (h:∀s,lvT a s=lvT b s):a=b:=by
 have hlen:a.length=b.length:=by have:=congrArg List.length hn;simpa using this
 refine List.ext_getElem hlen fun i h1 h2=>?_
 have e1:a[i].1=b[i].1:=by
  have:=congrArg (fun l=>l[i]?) hn
  simp only [List.getElem?_map,List.getElem?_eq_getElem h1,List.getElem?_eq_getElem h2] at this
  simpa using this
 have hp:∀(l:List (ByteArray×Int)) (hl:(l.map (·.1)).Nodup) (hi:i<l.length),posN (l.map (·.1)) l[i].1=i:=fun l hl hi=>by
  have hm:l[i].1∈l.map (·.1):=List.mem_map.2 ⟨_,List.getElem_mem hi,rfl⟩
  obtain ⟨h3,h4⟩:=posN_in hm
  have h5:(l.map (·.1))[posN (l.map (·.1)) l[i].1]'h3=(l.map (·.1))[i]'(by simpa using hi):=by
   rw [List.getElem?_eq_getElem h3] at h4
   injection h4 with h4
   rw [h4];simp
  exact (List.getElem_inj hl).1 h5
 have e2:=h a[i].1
 have l1:lvT a a[i].1=some a[i].2:=by unfold lvT;rw [hp a hd h1,List.getElem?_eq_getElem h1];rfl
 have l2:lvT b a[i].1=some b[i].2:=by unfold lvT;rw [e1,hp b (hn ▸ hd) h2,List.getElem?_eq_getElem h2];rfl
 rw [l1,l2] at e2
 injection e2 with e2
 exact Prod.ext e1 e2
theorem lvT_fold (n:Nat) (hn:n≠0) (l:List ByteArray) (s:ByteArray):∀ts:List (ByteArray×Int),lvT (l.foldl (fun u t=>putT u t n) ts) s=if hasB l s then some (n:Int) else lvT ts s:=by
 induction l with
 | nil=>intro ts;rfl
 | cons t l ih =>
  intro ts
  rw [List.foldl_cons,ih,lvT_put]
  by_cases h1:hasB l s=true
  ·have:hasB (t::l) s=true:=by rw [hasB_iff] at h1 ⊢;simp [h1]
   rw [if_pos h1,if_pos this]
  ·rw [if_neg h1]
   by_cases e:s=t
   ·subst e
    rw [if_pos rfl,if_neg hn,if_pos (hasB_iff.2 (by simp))]
   ·have:¬hasB (t::l) s=true:=fun h2=>by
     rw [hasB_iff] at h1 h2
     rcases List.mem_cons.1 h2 with h2 | h2
     ·exact e h2
     ·exact h1 h2
    rw [if_neg e,if_neg this]
theorem lvT_fold0 (l:List ByteArray) (s:ByteArray):∀ts:List (ByteArray×Int),lvT (l.foldl (fun u t=>putT u t 0) ts) s=if hasB l s then some ((lvT ts s).getD 0) else lvT ts s:=by
 induction l with
 | nil=>intro ts;rfl
 | cons t l ih =>
  intro ts
  rw [List.foldl_cons,ih,lvT_put]
  by_cases e:s=t
  ·subst e
   rw [if_pos rfl,if_pos rfl,if_pos (hasB_iff.2 (List.mem_cons_self))]
   split <;> rfl
  ·have h2:hasB (t::l) s=hasB l s:=by
    rw [Bool.eq_iff_iff,hasB_iff,hasB_iff];simp [e]
   rw [if_neg e,h2]

/-- What a header lists. -/
theorem HOk.inv {k:List (Nat×List ByteArray)} (h:HOk k):∀{hs:List (Nat×List ByteArray)} {d:Nat} {l:List ByteArray},k=hs++[(d,l)]→HOk hs∧d≤3∧(0<d→l.Nodup∧∀t∈l,kn hs t≠2):=by
 induction h with
 | nil=>intro hs d l e;simp at e
 | @head hs' d' h hd _ =>
  intro hs d l e
  have:=List.append_inj' e rfl
  simp at this
  obtain ⟨rfl,rfl,rfl⟩:=this
  exact ⟨h,hd,fun _=>⟨List.nodup_nil,by simp⟩⟩
 | @term hs' d' l' t h hc ih =>
  intro hs d l e
  have:=List.append_inj' e rfl
  simp at this
  obtain ⟨rfl,rfl,rfl⟩:=this
  obtain ⟨h1,h2,h3⟩:=ih rfl
  refine ⟨h1,h2,fun hd=>?_⟩
  obtain ⟨h4,h5⟩:=h3 hd
  have hnt:t∉l':=fun hm=>hc (Or.inl (by
   unfold kn
   rw [List.foldl_append]
   simp only [List.foldl_cons,List.foldl_nil]
   rw [if_pos (hasB_iff.2 hm)]
   omega))
  refine ⟨List.nodup_append.2 ⟨h4,by simp,fun x hx y hy e9=>by simp at hy;subst hy;subst e9;exact hnt hx⟩,fun x hx=>?_⟩
  rcases List.mem_append.1 hx with hx | hx
  ·exact h5 x hx
  ·simp at hx;subst hx
   intro h6
   refine hc (Or.inl ?_)
   unfold kn at h6 ⊢
   rw [List.foldl_append]
   simp only [List.foldl_cons,List.foldl_nil]
   rw [if_neg (fun hb=>hnt (hasB_iff.1 hb))]
   exact h6
def Sof (hs:List (Nat×List ByteArray)):BS:=⟨(hTl hs).1,[],(hTl hs).2,[],0⟩
theorem hTl_snoc (hs:List (Nat×List ByteArray)) (h:Nat×List ByteArray):hTl (hs++[h])=hstep (hTl hs) h:=by simp [hTl]
theorem kn_hTl {hs:List (Nat×List ByteArray)} (h:HOk hs) (hn:∀x∈hs,∀t∈x.2,t≠noT) {s:ByteArray} (hs':s≠noT):kn hs s=knOf (lvT (hTl hs).1 s):=by
 rw [kn_lv h hn s hs']
 have:tmOf hs=(noT,0)::(hTl hs).1:=by unfold tmOf;rw [hAll_tl hn]
 rw [this]
 congr 1
 unfold lvT
 rw [List.map_cons,posN,if_neg (fun e=>hs' e.symm),List.getElem?_cons_succ]
end Go.Px.Spec
namespace Go.Proofs.YtckbgeedlobfaaaDoor
open Go.Px Go.Px.Scan Go.Px.Spec Go.RowKit

theorem run_terms (ts:List ByteArray):∀(l0:List Int) (S:BS),Q S→(∀t∈ts,TermP t)→Run (ts.foldlM termF (l0,S)) (Q (ts.foldl addT S)) (l0++ts.map (posH ((ts.foldl addT S).terms.map (·.1))),ts.foldl addT S):=by
 induction ts with
 | nil=>intro l0 S hq _;exact .inl ⟨hq,by simp;rfl⟩
 | cons t ts ih =>
  intro l0 S hq hT
  rw [List.foldlM_cons,List.foldl_cons]
  refine Run.bind (a:=(l0++[posH ((addT S t).terms.map (·.1)) t],addT S t)) (Run.bind (run_term (hT t (by simp)) hq) (fun hp => .inl ⟨hp,rfl⟩) id) (fun hp=>?_) Q_foldT
  refine (ih _ (addT S t) hp fun x hx=>hT x (by simp [hx])).cast Iff.rfl ?_
  rw [List.map_cons,(Ext.foldT ts (addT S t)).posH (mem_addT S t)]
  simp

theorem posH_inj {l:List ByteArray} {s t:ByteArray} (hs:s∈l) (ht:t∈l) (h:posH l s=posH l t):s=t:=by
 rw [posH_mem hs,posH_mem ht] at h
 exact (posN_inj hs (by omega)).symm

theorem grade_lvT {S:BS} {t:ByteArray} (h:t∈S.terms.map (·.1)):lvT S.terms t=some (gradeOf S (posH (S.terms.map (·.1)) t)):=by
 have hl:=(posN_in h).1
 unfold lvT gradeOf
 rw [posH_mem h,show ((posN (S.terms.map (·.1)) t:Int)+1-1).toNat=posN (S.terms.map (·.1)) t by omega,List.getElem?_eq_getElem (by simpa using hl)]
 rfl

theorem foldT_app (l:List ByteArray):∀S:BS,∃r,(l.foldl addT S).terms=S.terms++r∧∀x∈r,x.2=0:=by
 induction l with
 | nil=>exact fun S=>⟨[],by simp,by simp⟩
 | cons t l ih =>
  intro S
  obtain ⟨r,h1,h2⟩:=ih (addT S t)
  rw [List.foldl_cons,h1]
  unfold addT
  split
  ·exact ⟨r,rfl,h2⟩
  ·refine ⟨(t,0)::r,by simp,fun x hx=>?_⟩
   rcases List.mem_cons.1 hx with rfl | hx
   ·rfl
   ·exact h2 x hx
theorem grade_app {S S':BS} {r:List (ByteArray×Int)} (h:S'.terms=S.terms++r) (hr:∀x∈r,x.2=0) (k:Int):gradeOf S' k=gradeOf S k:=by
 unfold gradeOf
 rw [h]
 by_cases hl:(k-1).toNat<S.terms.length
 ·rw [List.getElem?_append_left hl]
 ·rw [List.getElem?_append_right (by omega),List.getElem?_eq_none (l:=S.terms) (by omega)]
  cases e:r[(k-1).toNat-S.terms.length]? with
  | none=>rfl
  | some x=>exact hr x (List.mem_of_getElem? e)
theorem putT_lo {ts:List (ByteArray×Int)} (h:∀x∈ts,0≤x.2) (t:ByteArray) (n:Nat):∀x∈putT ts t n,0≤x.2:=by
 have hu:∀x∈(if hasB (ts.map (·.1)) t then ts else ts++[(t,(0:Int))]),0≤x.2:=by
  split
  ·exact h
  ·intro x hx
   rcases List.mem_append.1 hx with hx | hx
   ·exact h x hx
   ·simp at hx;subst hx;simp
 unfold putT
 simp only
 split
 ·exact hu
 ·intro x hx
  obtain ⟨i,hi⟩:=List.getElem?_of_mem hx
  rw [List.getElem?_modify] at hi
  generalize hq:(if hasB (ts.map (·.1)) t then ts else ts++[(t,(0:Int))])=us at *
  cases e:us[i]? with
  | none=>rw [e] at hi;simp at hi
  | some y =>
   rw [e] at hi
   simp at hi
   split at hi
   ·subst hi;simp
   ·subst hi;exact hu y (List.mem_of_getElem? e)
theorem hTl_good (hs:List (Nat×List ByteArray)):(∀x∈(hTl hs).1,0≤x.2)∧((hTl hs).1.map (·.1)).Nodup:=by
 have h1:∀(l:List ByteArray) (n:Nat) (ts:List (ByteArray×Int)),(∀x∈ts,0≤x.2)∧(ts.map (·.1)).Nodup→(∀x∈l.foldl (fun u t=>putT u t n) ts,0≤x.2)∧((l.foldl (fun u t=>putT u t n) ts).map (·.1)).Nodup:=fun l n=>by
  induction l with
  | nil=>exact fun ts h=>h
  | cons t l ih=>exact fun ts h=>ih _ ⟨putT_lo h.1 t n,by rw [putT_names];exact nodup_addB h.2⟩
 have h2:∀(hs:List (Nat×List ByteArray)) (a:List (ByteArray×Int)×List Int),(∀x∈a.1,0≤x.2)∧(a.1.map (·.1)).Nodup→(∀x∈(hs.foldl hstep a).1,0≤x.2)∧((hs.foldl hstep a).1.map (·.1)).Nodup:=fun hs=>by
  induction hs with
  | nil=>exact fun a h=>h
  | cons h hs ih=>exact fun a ha=>ih _ (h1 h.2 _ _ ha)
 exact h2 hs ([],[]) ⟨by simp,by simp⟩
theorem lvT_mem {ts:List (ByteArray×Int)} {t:ByteArray} {n:Int} (h:lvT ts t=some n):∃x∈ts,x.2=n:=by
 unfold lvT at h
 cases e:ts[posN (ts.map (·.1)) t]? with
 | none=>rw [e] at h;cases h
 | some x=>rw [e] at h;injection h with h;exact ⟨x,List.mem_of_getElem? e,h⟩
theorem lvT_setLv {us:List (ByteArray×Int)} {l:List ByteArray} (hl:∀t∈l,t∈us.map (·.1)) (n:Int) (s:ByteArray):lvT (setLv n us (l.map (posH (us.map (·.1))))) s=if hasB l s then some n else lvT us s:=by
 unfold lvT
 rw [setLv_names,setLv_get _ _ _ _ (fun h hh=>by obtain ⟨t,ht,rfl⟩:=List.mem_map.1 hh;rw [posH_mem (hl t ht)];omega)]
 by_cases hs:s∈us.map (·.1)
 ·have hlt:=(posN_in hs).1
  rw [List.getElem?_eq_getElem (by simpa using hlt)]
  have hiff:((posN (us.map (·.1)) s:Int)+1∈l.map (posH (us.map (·.1))))↔s∈l:=by
   rw [←posH_mem hs]
   constructor
   ·intro h
    obtain ⟨t,ht,e⟩:=List.mem_map.1 h
    rw [←posH_inj (hl t ht) hs e];exact ht
   ·exact fun h=>List.mem_map.2 ⟨s,h,rfl⟩
  by_cases hsl:s∈l
  ·rw [if_pos (hasB_iff.2 hsl)]
   simp only [Option.map_some,if_pos (hiff.2 hsl)]
  ·rw [if_neg (fun h=>hsl (hasB_iff.1 h))]
   simp only [Option.map_some,if_neg (fun h=>hsl (hiff.1 h))]
 ·have hge:us.length≤posN (us.map (·.1)) s:=by rw [posN_no hs];simp
  have hsl:¬hasB l s=true:=fun h=>hs (hl s (hasB_iff.1 h))
  rw [List.getElem?_eq_none hge,if_neg hsl];rfl

/-- A header's level is given. -/
theorem run_level {hs:List (Nat×List ByteArray)} {d:Nat} {l:List ByteArray} {lv:Int→Int} (hok:HOk (hs++[(d,l)])) (hn:∀x∈hs,∀t∈x.2,t≠noT) (hT:∀t∈l,TermP t) (hl:l≠[]) (hlv:∀h,1≤h→lv h=gradeOf (Sof hs) h) :
  ∃lv',(∀h,1≤h→lv' h=gradeOf (Sof (hs++[(d,l)])) h)∧levF lv d (l.map (posH ((l.foldl addT (Sof hs)).terms.map (·.1))),l.foldl addT (Sof hs)) = .ok (lv',Sof (hs++[(d,l)])):=by
 obtain ⟨hok1,hd3,hinv⟩:=hok.inv rfl
 have ho:=foldT_other l (Sof hs)
 have ht:=foldT_terms l (Sof hs)
 obtain ⟨r,hr1,hr2⟩:=foldT_app l (Sof hs)
 have hS:(Sof (hs++[(d,l)]))=⟨l.foldl (fun u t=>putT u t (if 0<d then ((hTl hs).2++[(d:Int)]).length else 0)) (hTl hs).1,[],if 0<d then (hTl hs).2++[(d:Int)] else (hTl hs).2,[],0⟩:=by
  unfold Sof;rw [hTl_snoc]
  unfold hstep
  by_cases h:0<d <;> simp [h]
 have hmem:∀t∈l,t∈(l.foldl addT (Sof hs)).terms.map (·.1):=fun t h=>by
  rw [ht,names_put];exact mem_fold.2 (Or.inr h)
 have hnd1:((l.foldl addT (Sof hs)).terms.map (·.1)).Nodup:=by
  rw [ht,names_put];exact nodup_fold (hTl_good hs).2
 have hlv1:∀h,1≤h→lv h=gradeOf (l.foldl addT (Sof hs)) h:=fun h hh=>by rw [hlv h hh,grade_app hr1 hr2]
 have hlv0:0<d→∀t∈l,lvT (l.foldl addT (Sof hs)).terms t=some 0:=fun hd t hm=>by
  rw [ht,lvT_fold0,if_pos (hasB_iff.2 hm)]
  have h2:=(hinv hd).2 t hm
  rw [kn_hTl hok1 hn (noT_size (hT t hm).1)] at h2
  show some ((lvT (hTl hs).1 t).getD 0)=some 0
  cases hl:lvT (hTl hs).1 t with
  | none=>rfl
  | some n =>
   rw [hl] at h2
   obtain ⟨x,hx,e⟩:=lvT_mem hl
   have:=(hTl_good hs).1 x hx
   have hnn:¬0<n:=fun h=>h2 (by simp [knOf,h])
   show some n=some 0
   congr 1;omega
 generalize hS1:l.foldl addT (Sof hs)=S1 at *
 obtain ⟨a,b,c,e,f⟩:=S1
 simp only at ho ht hr1 hmem hnd1 hlv1 hlv0
 obtain ⟨h1,h2,h3,h4⟩:=ho
 subst h1 h2 h3 h4
 by_cases hd:0<d
 ·obtain ⟨hnd,hkn⟩:=hinv hd
  simp only [hd,if_true] at hS
  have hge:∀h∈l.map (posH (a.map (·.1))),1≤h:=fun h hh=>by obtain ⟨t,ht,rfl⟩:=List.mem_map.1 hh;rw [posH_mem (hmem t ht)];omega
  have hP:LvP (⟨a,(Sof hs).nons,(Sof hs).levels,(Sof hs).rules,(Sof hs).start⟩:BS) d (l.map (posH (a.map (·.1)))):=by
   refine ⟨by omega,by omega,by simpa using hl,fun h hh=>?_,?_⟩
   ·obtain ⟨t,ht2,rfl⟩:=List.mem_map.1 hh
    have h5:=hmem t ht2
    have h6:=(posN_in h5).1
    have h7:=grade_lvT (S:=⟨a,(Sof hs).nons,(Sof hs).levels,(Sof hs).rules,(Sof hs).start⟩) h5
    rw [hlv0 hd t ht2] at h7
    injection h7 with h7
    rw [posH_mem h5]
    simp only [List.length_map] at h6
    refine ⟨by omega,by show _≤(a.length:Int);omega,?_⟩
    unfold gradeOf at h7
    rw [←posH_mem h5]
    exact h7.symm
   ·refine List.pairwise_map.2 (List.Pairwise.imp_of_mem ?_ hnd)
    intro x y hx hy hxy e
    exact hxy (posH_inj (hmem x hx) (hmem y hy) e)
  have hlev:=levelA_yes hP
  have hn0:((hTl hs).2++[(d:Int)]).length≠0:=by simp
  have hnn:(((hTl hs).2++[(d:Int)]).length:Int)=((hTl hs).2.length:Int)+1:=by simp
  have hS2:Sof (hs++[(d,l)])=⟨setLv (((hTl hs).2.length:Int)+1) a (l.map (posH (a.map (·.1)))),[],(hTl hs).2++[(d:Int)],[],0⟩:=by
   rw [hS]
   congr 1
   refine tm_ext ?_ ?_ fun s=>?_
   ·rw [setLv_names,names_put,ht,names_put];rfl
   ·rw [names_put];exact nodup_fold (hTl_good hs).2
   ·rw [lvT_fold _ hn0,lvT_setLv hmem,hnn]
    by_cases hb:hasB l s=true
    ·rw [if_pos hb,if_pos hb]
    ·rw [if_neg hb,if_neg hb,ht,lvT_fold0,if_neg hb];rfl
  refine ⟨fun t=>if t∈l.map (posH (a.map (·.1))) then ((hTl hs).2.length:Int)+1 else lv t,?_,?_⟩
  ·intro h hh
   rw [hS2]
   show _=((_:Option (ByteArray×Int)).map (·.2)).getD 0
   rw [setLv_get _ _ _ _ hge,show (((h-1).toNat:Nat):Int)+1=h by omega]
   by_cases hm:h∈l.map (posH (a.map (·.1)))
   ·obtain ⟨t,ht2,rfl⟩:=List.mem_map.1 hm
    have h6:=(posN_in (hmem t ht2)).1
    simp only [List.length_map] at h6
    have h7:(posH (a.map (·.1)) t-1).toNat<a.length:=by rw [posH_mem (hmem t ht2)];omega
    simp only [if_pos hm,List.getElem?_eq_getElem h7];rfl
   ·simp only [if_neg hm]
    rw [hlv1 h hh]
    unfold gradeOf
    cases a[(h-1).toNat]? <;> rfl
  ·unfold levF
   rw [if_pos hd,hS2]
   have hen:en (levelA (⟨a,(Sof hs).nons,(Sof hs).levels,(Sof hs).rules,(Sof hs).start⟩:BS) d (l.map (posH (a.map (·.1))))) = .ok (((hTl hs).2.length:Int)+1,⟨setLv (((hTl hs).2.length:Int)+1) a (l.map (posH (a.map (·.1)))),[],(hTl hs).2++[(d:Int)],[],0⟩):=by
    rw [hlev];rfl
   rw [hen];rfl
 ·have hd0:d=0:=by omega
  subst hd0
  have hS2:Sof (hs++[(0,l)])=⟨a,(Sof hs).nons,(Sof hs).levels,(Sof hs).rules,(Sof hs).start⟩:=by
   rw [hS,ht];simp [Sof]
  rw [hS2]
  refine ⟨lv,hlv1,?_⟩
  unfold levF;rw [if_neg (by omega)];rfl

theorem run_heads {hs:List (Nat×List ByteArray)} (hok:HOk hs) (hT:∀x∈hs,∀t∈x.2,TermP t) (hne:∀x∈hs,x.2≠[]) :
  ∃lv,(∀h,1≤h→lv h=gradeOf (Sof hs) h)∧Run (hs.foldlM headF (fun _=>0,S0)) (Q (Sof hs)) (lv,Sof hs):=by
 have key:∀n,∀hs:List (Nat×List ByteArray),hs.length=n→HOk hs→(∀x∈hs,∀t∈x.2,TermP t)→(∀x∈hs,x.2≠[])→∃lv,(∀h,1≤h→lv h=gradeOf (Sof hs) h)∧Run (hs.foldlM headF (fun _=>0,S0)) (Q (Sof hs)) (lv,Sof hs):=fun n=>by
  induction n with
  | zero =>
   intro hs hl _ _ _
   have:hs=[]:=List.length_eq_zero_iff.1 hl
   subst this
   exact ⟨fun _=>0,fun h _=>by simp [gradeOf,Sof,hTl],.inl ⟨by simp [Q,Sof,hTl],rfl⟩⟩
  | succ n ih =>
   intro hs hl hok hT hne
   rcases List.eq_nil_or_concat hs with e | ⟨a,⟨d,l⟩,e⟩
   ·rw [e] at hl;simp at hl
   ·have e':hs=a++[(d,l)]:=by simpa using e
    subst e'
    have hTa:∀x∈a,∀t∈x.2,TermP t:=fun x hx=>hT x (by simp [hx])
    have hTl:∀t∈l,TermP t:=hT (d,l) (by simp)
    obtain ⟨lv,h1,h2⟩:=ih a (by simpa using hl) (hok.inv rfl).1 hTa (fun x hx=>hne x (by simp [hx]))
    obtain ⟨lv',h3,h4⟩:=run_level hok (fun x hx t ht=>noT_size (hTa x hx t ht).1) hTl (hne (d,l) (by simp)) h1
    refine ⟨lv',h3,?_⟩
    rw [List.foldlM_append]
    have hQ1:Q (Sof (a++[(d,l)]))↔Q (l.foldl addT (Sof a)):=by
     have e1:(Sof (a++[(d,l)])).terms.length=(l.foldl addT (Sof a)).terms.length:=by
      have:(Sof (a++[(d,l)])).terms.map (·.1)=(l.foldl addT (Sof a)).terms.map (·.1):=by
       rw [foldT_terms,names_put]
       show ((Spec.hTl (a++[(d,l)])).1).map (·.1)=_
       rw [hTl_snoc];unfold hstep;exact names_put _ _ _
      simpa using congrArg List.length this
     have h5:=foldT_other l (Sof a)
     unfold Q
     rw [e1,h5.1,h5.2.2.1];rfl
    refine Run.bind h2 (fun hq=>?_) (fun hq=>Q_foldT (hQ1.1 hq))
    have hone:[(d,l)].foldlM headF (lv,Sof a)=headF (lv,Sof a) (d,l):=by simp
    rw [hone]
    unfold headF
    refine Run.bind (run_terms l [] (Sof a) hq hTl) (fun hq2=>?_) hQ1.1
    rw [List.nil_append]
    exact .inl ⟨hQ1.2 hq2,h4⟩
 exact key _ hs rfl hok hT hne
end Go.Proofs.YtckbgeedlobfaaaDoor

/-
  The maker's rows, plainly.
-/
namespace Go.Px.Spec
open Go.Px Go.Px.Scan
theorem putT_hi {ts:List (ByteArray×Int)} {k:Int} (h:∀x∈ts,x.2≤k) (hk:0≤k) (t:ByteArray) (n:Nat) (hn:(n:Int)≤k):∀x∈putT ts t n,x.2≤k:=by
 have hu:∀x∈(if hasB (ts.map (·.1)) t then ts else ts++[(t,(0:Int))]),x.2≤k:=by
  split
  ·exact h
  ·intro x hx
   rcases List.mem_append.1 hx with hx | hx
   ·exact h x hx
   ·simp at hx;subst hx;exact hk
 unfold putT
 simp only
 split
 ·exact hu
 ·intro x hx
  obtain ⟨i,hi⟩:=List.getElem?_of_mem hx
  rw [List.getElem?_modify] at hi
  generalize hq:(if hasB (ts.map (·.1)) t then ts else ts++[(t,(0:Int))])=us at *
  cases e:us[i]? with
  | none=>rw [e] at hi;simp at hi
  | some y =>
   rw [e] at hi
   simp at hi
   split at hi
   ·subst hi;exact hn
   ·subst hi;exact hu y (List.mem_of_getElem? e)
theorem hTl_hi (hs:List (Nat×List ByteArray)):∀x∈(hTl hs).1,x.2≤((hTl hs).2.length:Int):=by
 have h1:∀(k:Int),0≤k→∀(l:List ByteArray) (n:Nat),(n:Int)≤k→∀(ts:List (ByteArray×Int)),(∀x∈ts,x.2≤k)→∀x∈l.foldl (fun u t=>putT u t n) ts,x.2≤k:=fun k hk l n hn=>by
  induction l with
  | nil=>exact fun ts h=>h
  | cons t l ih=>exact fun ts h=>ih _ (putT_hi h hk t n hn)
 have h2:∀(hs:List (Nat×List ByteArray)) (a:List (ByteArray×Int)×List Int),(∀x∈a.1,x.2≤(a.2.length:Int))→∀x∈(hs.foldl hstep a).1,x.2≤((hs.foldl hstep a).2.length:Int):=fun hs=>by
  induction hs with
  | nil=>exact fun a h=>h
  | cons h hs ih =>
   intro a ha
   refine ih _ ?_
   unfold hstep
   simp only
   have h3:(a.2.length:Int)≤((if 0<h.1 then a.2++[(h.1:Int)] else a.2).length:Int):=by split <;> simp <;> omega
   refine h1 _ (by omega) h.2 _ ?_ _ fun x hx=>Int.le_trans (ha x hx) h3
   by_cases hd:0<h.1 <;> simp [hd]
 exact h2 hs ([],[]) (by simp)

def stepW (ls:List ByteArray) (S:BS) (w:Wd):BS:=if isNonX ls w then addN S w.2.1 else addT S w.2.1
def hW (ls:List ByteArray) (S:BS) (w:Wd):Int:=if isNonX ls w then -posH S.nons w.2.1 else posH (S.terms.map (·.1)) w.2.1
/-- A row's symbols are put. -/
def symsS (ls:List ByteArray) (S:BS) (r:RowS):BS :=
 let S2:=r.words.foldl (stepW ls) (addN S r.left)
 if r.by_=noT then S2 else addT S2 r.by_
/-- States that have the one's names, levels, and rules. -/
structure More (S S':BS):Prop where
 terms:∃r,S'.terms=S.terms++r∧∀x∈r,x.2=0
 nons:Ext S.nons S'.nons
 lev:S'.levels=S.levels
 rules:S'.rules=S.rules
 start:S'.start=S.start
theorem More.refl (S:BS):More S S:=⟨⟨[],by simp,by simp⟩,Ext.refl _,rfl,rfl,rfl⟩
theorem More.trans {A B C:BS} (h:More A B) (k:More B C):More A C:=by
 obtain ⟨r,h1,h2⟩:=h.terms
 obtain ⟨q,k1,k2⟩:=k.terms
 refine ⟨⟨r++q,by rw [k1,h1];simp,fun x hx=>?_⟩,h.nons.trans k.nons,k.lev.trans h.lev,k.rules.trans h.rules,k.start.trans h.start⟩
 rcases List.mem_append.1 hx with hx | hx
 ·exact h2 x hx
 ·exact k2 x hx
theorem More.addT (S:BS) (t:ByteArray):More S (addT S t):=by
 unfold Spec.addT
 split
 ·exact More.refl S
 ·exact ⟨⟨[(t,0)],rfl,by simp⟩,Ext.refl _,rfl,rfl,rfl⟩
theorem More.addN (S:BS) (t:ByteArray):More S (addN S t):=by
 unfold Spec.addN
 split
 ·exact More.refl S
 ·exact ⟨⟨[],by simp,by simp⟩,⟨[t],rfl⟩,rfl,rfl,rfl⟩
theorem More.stepW (ls:List ByteArray) (S:BS) (w:Wd):More S (stepW ls S w):=by
 unfold Spec.stepW;split
 ·exact More.addN S _
 ·exact More.addT S _
theorem More.fold (ls:List ByteArray) (l:List Wd):∀S:BS,More S (l.foldl (Spec.stepW ls) S):=by
 induction l with
 | nil=>exact More.refl
 | cons w l ih=>exact fun S=>(More.stepW ls S w).trans (ih _)
theorem More.syms (ls:List ByteArray) (S:BS) (r:RowS):More S (symsS ls S r):=by
 unfold symsS
 simp only
 have h:=(More.addN S r.left).trans (More.fold ls r.words _)
 split
 ·exact h
 ·exact h.trans (More.addT _ _)
theorem More.ext {S S':BS} (h:More S S'):Ext (S.terms.map (·.1)) (S'.terms.map (·.1)):=by
 obtain ⟨r,h1,_⟩:=h.terms;exact ⟨r.map (·.1),by rw [h1];simp⟩
theorem More.Q {S S':BS} (h:More S S') (hq:Q S'):Q S:=by
 obtain ⟨r,h1,_⟩:=h.terms
 obtain ⟨q,h2⟩:=h.nons
 have h3:=hq.1
 rw [h1,h2] at h3
 simp at h3
 exact ⟨by omega,by rw [←h.rules];exact hq.2⟩
/-- Is a word's symbol there? -/
def inW (ls:List ByteArray) (S:BS) (w:Wd):Prop:=if isNonX ls w then w.2.1∈S.nons else w.2.1∈S.terms.map (·.1)
theorem inW_step (ls:List ByteArray) (S:BS) (w:Wd):inW ls (stepW ls S w) w:=by
 unfold inW stepW
 split
 ·exact mem_addN S _
 ·exact mem_addT S _
theorem More.inW {S S':BS} (h:More S S') {ls:List ByteArray} {w:Wd} (hw:inW ls S w):inW ls S' w:=by
 unfold Spec.inW at hw ⊢
 split
 ·rename_i h1;rw [if_pos h1] at hw;exact h.nons.mem hw
 ·rename_i h1;rw [if_neg h1] at hw;exact h.ext.mem hw
theorem More.hW {S S':BS} (h:More S S') {ls:List ByteArray} {w:Wd} (hw:Spec.inW ls S w):hW ls S' w=hW ls S w:=by
 unfold Spec.inW at hw
 unfold Spec.hW
 split
 ·rename_i h1;rw [if_pos h1] at hw;rw [h.nons.posH hw]
 ·rename_i h1;rw [if_neg h1] at hw;rw [h.ext.posH hw]
end Go.Px.Spec
namespace Go.Proofs.YtckbgeedlobfaaaDoor
open Go.Px Go.Px.Scan Go.Px.Spec Go.RowKit

theorem more_grade {S S':BS} (h:More S S') (k:Int):gradeOf S' k=gradeOf S k:=by obtain ⟨r,h1,h2⟩:=h.terms;exact grade_app h1 h2 k

theorem run_sym {ls:List ByteArray} {S:BS} {w:Wd} (hw:WP w) (hT:isTB w=true) (hq:Q S):Run (symM ls S w) (Q (stepW ls S w)) (hW ls (stepW ls S w) w,stepW ls S w):=by
 have hi:isNonX ls w=true↔w.1=1∧hasB ls w.2.1=true:=by simp [isNonX];exact And.comm
 unfold symM stepW hW
 by_cases h:isNonX ls w=true
 ·have h2:=hi.1 h
  rw [if_pos h2,if_pos h,if_pos h]
  exact run_non (hw.1 h2.1) hq
 ·have h2:¬(w.1=1∧hasB ls w.2.1=true):=fun h3=>h (hi.2 h3)
  rw [if_neg h2,if_neg h,if_neg h]
  exact run_term (Tm.term ⟨w,hw,hT,rfl⟩) hq

theorem run_syms {ls:List ByteArray} (l:List Wd):∀(l0:List Int) (S:BS),Q S→(∀w∈l,WP w∧isTB w=true)→Run (l.foldlM (symF ls) (l0,S)) (Q (l.foldl (stepW ls) S)) (l0++l.map (hW ls (l.foldl (stepW ls) S)),l.foldl (stepW ls) S):=by
 induction l with
 | nil=>intro l0 S hq _;exact .inl ⟨hq,by simp;rfl⟩
 | cons w l ih =>
  intro l0 S hq hT
  have hw:=hT w (by simp)
  rw [List.foldlM_cons,List.foldl_cons]
  refine Run.bind (a:=(l0++[hW ls (stepW ls S w) w],stepW ls S w)) (Run.bind (run_sym hw.1 hw.2 hq) (fun hp => .inl ⟨hp,rfl⟩) id) (fun hp=>?_) (More.fold ls l _).Q
  refine (ih _ (stepW ls S w) hp fun x hx=>hT x (by simp [hx])).cast Iff.rfl ?_
  rw [List.map_cons,(More.fold ls l (stepW ls S w)).hW (inW_step ls S w)]
  simp

/-- A row's level, by handles. -/
def levR (ls:List ByteArray) (S:BS) (r:RowS):Int :=
 if r.said=2 then 0 else if r.by_≠noT then gradeOf S (posH (S.terms.map (·.1)) r.by_) else ruleL S (r.words.map (hW ls S))
def ruleOf (ls:List ByteArray) (S:BS) (r:RowS):Int×List Int×Int:=(-posH S.nons r.left,r.words.map (hW ls S),levR ls S r)
def rowS (ls:List ByteArray) (S:BS) (r:RowS):BS:={symsS ls S r with rules:=S.rules++[ruleOf ls (symsS ls S r) r] }

theorem isN_of {S:BS} {t:ByteArray} (h:t∈S.nons):isN S (-posH S.nons t)=true:=by
 have:=(posN_in h).1
 unfold isN
 rw [posH_mem h]
 simp;omega
theorem isT_of {S:BS} {t:ByteArray} (h:t∈S.terms.map (·.1)):isT S (posH (S.terms.map (·.1)) t)=true:=by
 have:=(posN_in h).1
 unfold isT
 rw [posH_mem h]
 simp at this ⊢;omega
theorem badH_of {ls:List ByteArray} {S:BS} {w:Wd} (h:inW ls S w):badH S (hW ls S w)=false:=by
 unfold inW at h
 unfold hW badH
 split
 ·rename_i h1;rw [if_pos h1] at h;rw [isN_of h];simp
 ·rename_i h1;rw [if_neg h1] at h;rw [isT_of h];simp
theorem in_fold {ls:List ByteArray} (l:List Wd):∀S:BS,∀w∈l,inW ls (l.foldl (stepW ls) S) w:=by
 induction l with
 | nil=>intro S w hw;cases hw
 | cons x l ih =>
  intro S w hw
  rw [List.foldl_cons]
  rcases List.mem_cons.1 hw with rfl | hw
  ·exact (More.fold ls l _).inW (inW_step ls S w)
  ·exact ih _ w hw

theorem modify_last {α:Type} (l:List α) (x:α) (f:α→α):(l++[x]).modify l.length f=l++[f x]:=by
 apply List.ext_getElem?
 intro i
 rw [List.getElem?_modify]
 by_cases h:i<l.length
 ·have h2:¬l.length=i:=by omega
  rw [List.getElem?_append_left h,List.getElem?_append_left h];simp [h2]
 ·rw [List.getElem?_append_right (by omega),List.getElem?_append_right (by omega)]
  by_cases h2:i=l.length
  ·subst h2;simp
  ·have:i-l.length≠0:=by omega
   simp [h2,this]
theorem grade_last {S:BS} {R:List (Int×List Int×Int)} {l:Int} {q:List Int} {x level:Int} (hr:S.rules=R++[(l,q,x)]) (h0:0≤level) (h1:level≤S.levels.length):(gradeA S level [(R.length:Int)]).2={S with rules:=R++[(l,q,level)] }:=by
 unfold gradeA
 rw [if_pos ⟨⟨h0,h1⟩,fun p hp=>by rw [List.mem_singleton.1 hp,hr];simp;omega⟩]
 show ({S with rules:=S.rules.modify (R.length:Int).toNat fun r=>(r.1,r.2.1,level) }:BS)=_
 rw [hr,Int.toNat_natCast,modify_last]

theorem run_row {ls:List ByteArray} {lv:Int→Int} {S:BS} {r:RowS} {k:Nat} (hlv:∀h,1≤h→lv h=gradeOf S h) (hlo:∀h,0≤gradeOf S h∧gradeOf S h≤S.levels.length) (hr:RI WP k r) (hsd:Sd r) (hq:Q S) :
  Run (rowF ls lv S r) (Q (rowS ls S r)) (rowS ls S r):=by
 have hl:NameP r.left:=hr.left.name
 have m1:=More.addN S r.left
 have m2:=More.fold ls r.words (addN S r.left)
 have m12:=m1.trans m2
 have m3:More (r.words.foldl (stepW ls) (addN S r.left)) (symsS ls S r):=by
  unfold symsS;simp only;split
  ·exact More.refl _
  ·exact More.addT _ _
 have mS:=More.syms ls S r
 have hrules:(symsS ls S r).rules=S.rules:=mS.rules
 have hQ:Q (rowS ls S r)→Q (symsS ls S r)∧S.rules.length+1≤96:=fun h=>by
  have h2:=h.2
  have e:(rowS ls S r).rules.length=S.rules.length+1:=by simp [rowS]
  rw [e] at h2
  exact ⟨⟨h.1,by rw [hrules];omega⟩,h2⟩
 have hQ2:Q (symsS ls S r)→S.rules.length+1≤96→Q (rowS ls S r):=fun h h2=>⟨h.1,by simp [rowS];omega⟩
 unfold rowF
 refine Run.bind (run_non hl hq) (fun hq1=>?_) (fun h=>(m2.trans m3).Q (hQ h).1)
 refine Run.bind (run_syms r.words [] (addN S r.left) hq1 hr.wx) (fun hq2=>?_) (fun h=>m3.Q (hQ h).1)
 rw [List.nil_append]
 have hinl:r.left∈(r.words.foldl (stepW ls) (addN S r.left)).nons:=m2.nons.mem (mem_addN S r.left)
 have hinw:=in_fold (ls:=ls) r.words (addN S r.left)
 have hrl:(r.words.foldl (stepW ls) (addN S r.left)).rules=S.rules:=m12.rules
 have hleft : -posH (addN S r.left).nons r.left = -posH (r.words.foldl (stepW ls) (addN S r.left)).nons r.left:=by rw [m2.nons.posH (mem_addN S r.left)]
 have hgr:∀h,gradeOf (r.words.foldl (stepW ls) (addN S r.left)) h=gradeOf S h:=more_grade m12
 have hlev:(r.words.foldl (stepW ls) (addN S r.left)).levels=S.levels:=m12.lev
 have hsy:symsS ls S r=if r.by_=noT then r.words.foldl (stepW ls) (addN S r.left) else addT (r.words.foldl (stepW ls) (addN S r.left)) r.by_:=rfl
 show Run (en (ruleA (r.words.foldl (stepW ls) (addN S r.left)) (-posH (addN S r.left).nons r.left) (r.words.map (hW ls (r.words.foldl (stepW ls) (addN S r.left))))) >>= _) _ _
 rw [hleft]
 generalize hS2:r.words.foldl (stepW ls) (addN S r.left)=S2 at *
 have hrul:ruleA S2 (-posH S2.nons r.left) (r.words.map (hW ls S2))=if 96≤S2.rules.length then (0,11,S2) else ((S2.rules.length:Int),0,{S2 with rules:=S2.rules++[(-posH S2.nons r.left,r.words.map (hW ls S2),ruleL S2 (r.words.map (hW ls S2)))] }):=by
  unfold ruleA
  rw [if_neg]
  rintro (h | h)
  ·rw [isN_of hinl] at h;cases h
  ·rw [List.any_eq_true] at h
   obtain ⟨x,hx,h2⟩:=h
   obtain ⟨w,hw,rfl⟩:=List.mem_map.1 hx
   rw [badH_of (hinw w hw)] at h2;cases h2
 rw [hrul,hrl]
 by_cases h96:96≤S.rules.length
 ·rw [if_pos h96]
  exact .inr ⟨fun h=>by have:=(hQ h).2;omega,rfl⟩
 ·rw [if_neg h96]
  have hok:S.rules.length+1≤96:=by omega
  have hen:∀(p:Int) (T:BS),en (p,0,T) = .ok (p,T):=fun p T=>rfl
  rw [hen]
  show Run (endF lv r.by_ r.said ((S.rules.length:Int),{S2 with rules:=S.rules++[(-posH S2.nons r.left,r.words.map (hW ls S2),ruleL S2 (r.words.map (hW ls S2)))] })) _ _
    -- the end, with whatever level was said
  have fin:∀(S3:BS) (x:Int),S3.rules=S.rules++[(-posH S2.nons r.left,r.words.map (hW ls S2),x)]→S3.levels=S.levels→{S3 with rules:=S.rules }={symsS ls S r with rules:=S.rules } →
    (x=if r.by_≠noT then gradeOf (symsS ls S r) (posH ((symsS ls S r).terms.map (·.1)) r.by_) else ruleL (symsS ls S r) (r.words.map (hW ls (symsS ls S r)))) →
    (if r.said=2 then (gradeA S3 0 [(S.rules.length:Int)]).2 else S3)=rowS ls S r:=fun S3 x h3 hl3 he hx=>by
   have hmw:r.words.map (hW ls S2)=r.words.map (hW ls (symsS ls S r)):=List.map_congr_left fun w hw=>(m3.hW (hinw w hw)).symm
   have hml : -posH S2.nons r.left = -posH (symsS ls S r).nons r.left:=by rw [m3.nons.posH hinl]
   have goal:∀y:Int,y=levR ls (symsS ls S r) r→({S3 with rules:=S.rules++[(-posH S2.nons r.left,r.words.map (hW ls S2),y)] }:BS)=rowS ls S r:=fun y hy=>by
    have h5:({S3 with rules:=S.rules++[(-posH S2.nons r.left,r.words.map (hW ls S2),y)] }:BS)={({S3 with rules:=S.rules }:BS) with rules:=S.rules++[(-posH S2.nons r.left,r.words.map (hW ls S2),y)] }:=rfl
    rw [h5,he,hml,hmw,hy];rfl
   by_cases h2:r.said=2
   ·rw [if_pos h2,grade_last h3 (by omega) (by omega)]
    exact goal 0 (by unfold levR;rw [if_pos h2])
   ·rw [if_neg h2]
    have h6:S3={S3 with rules:=S.rules++[(-posH S2.nons r.left,r.words.map (hW ls S2),x)] }:=by rw [←h3]
    rw [h6]
    exact goal x (by unfold levR;rw [if_neg h2];exact hx)
  unfold endF precF
  by_cases hb:r.by_=noT
  ·rw [if_pos hb] at hsy ⊢
   refine .inl ⟨hQ2 (by rw [hsy];exact hq2) hok,?_⟩
   show Except.ok _=Except.ok _
   congr 1
   refine fin _ (ruleL S2 (r.words.map (hW ls S2))) rfl hlev ?_ ?_
   ·rw [hsy]
   ·rw [if_neg (by simp [hb]),hsy]
  ·rw [if_neg hb] at hsy ⊢
   have hbT:TermP r.by_:=by
    rcases hr.by_ with e | e
    ·exact absurd e hb
    ·exact e.term
   have hq3:Q ({S2 with rules:=S.rules++[(-posH S2.nons r.left,r.words.map (hW ls S2),ruleL S2 (r.words.map (hW ls S2)))] }:BS):=⟨hq2.1,by simp;omega⟩
   have hat:∀(R:List (Int×List Int×Int)),addT ({S2 with rules:=R }:BS) r.by_={addT S2 r.by_ with rules:=R }:=fun R=>by unfold addT;simp only;split <;> rfl
   have ht:=run_term (t:=r.by_) hbT hq3
   rw [hat] at ht
   rw [←hsy] at ht
   have hQ3:Q ({symsS ls S r with rules:=S.rules++[(-posH S2.nons r.left,r.words.map (hW ls S2),ruleL S2 (r.words.map (hW ls S2)))] }:BS)↔Q (rowS ls S r) :=
    ⟨fun h=>hQ2 ⟨h.1,by rw [hrules];omega⟩ hok,fun h=>⟨h.1,by simp;omega⟩⟩
   have hmemb:r.by_∈(symsS ls S r).terms.map (·.1):=by rw [hsy];exact mem_addT _ _
   have hlvb:lv (posH ((symsS ls S r).terms.map (·.1)) r.by_)=gradeOf (symsS ls S r) (posH ((symsS ls S r).terms.map (·.1)) r.by_):=by
    rw [hlv _ (by rw [posH_mem hmemb];omega),more_grade mS]
   dsimp only
   rcases ht with ⟨hp,e⟩ | ⟨hp,e⟩
   ·rw [e]
    refine .inl ⟨hQ3.1 hp,?_⟩
    show Except.ok _=Except.ok _
    congr 1
    have hgb:=hlo (posH ((symsS ls S r).terms.map (·.1)) r.by_)
    rw [←more_grade mS] at hgb
    have hg:(gradeA ({symsS ls S r with rules:=S.rules++[(-posH S2.nons r.left,r.words.map (hW ls S2),ruleL S2 (r.words.map (hW ls S2)))] }:BS) (lv (posH ((symsS ls S r).terms.map (·.1)) r.by_)) [(S.rules.length:Int)]).2={symsS ls S r with rules:=S.rules++[(-posH S2.nons r.left,r.words.map (hW ls S2),gradeOf (symsS ls S r) (posH ((symsS ls S r).terms.map (·.1)) r.by_))] }:=by
     rw [hlvb]
     exact grade_last rfl hgb.1 (by show _≤((symsS ls S r).levels.length:Int);rw [mS.lev];exact hgb.2)
    rw [hg]
    refine fin _ _ rfl mS.lev rfl ?_
    rw [if_pos hb]
   ·rw [e]
    exact .inr ⟨fun h=>hp (hQ3.2 h),rfl⟩
end Go.Proofs.YtckbgeedlobfaaaDoor
