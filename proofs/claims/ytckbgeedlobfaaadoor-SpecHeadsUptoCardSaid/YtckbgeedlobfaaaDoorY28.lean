/-
  Texts of this claim: Lr2, Lr3, Lh1, Lh2, Lh3, Lh4, RwHeads.
-/
import Derived.Test.YtckbgeedlobfaaaDoorY27
import Derived.Test.YtckbgeedlobfaaaDoorY26
set_option maxHeartbeats 1000000
set_option linter.unusedSimpArgs false
set_option linter.unusedVariables false
set_option maxRecDepth 100000
/-
  SpecRows: a round.
-/
namespace Go.Px
open Go.RowKit
variable {G:Nat→Prop} {W w w':World} {L:List Ch}
end Go.Px
namespace Go.Proofs.YtckbgeedlobfaaaDoor
open Go.Px Go.Px.Scan Go.Px.Spec Go.RowKit
attribute [-go_sem] Builtin.append_

section
variable {w1 w:World} {R:EP} {A Ao:Option Addr} {c co:Nat} {l out:List Wd} {i:Nat}
end
end Go.Proofs.YtckbgeedlobfaaaDoor

/-
  SpecRows: the law.
-/
namespace Go.Proofs.YtckbgeedlobfaaaDoor
open Go.Px Go.Px.Scan Go.Px.Spec Go.RowKit
attribute [-go_sem] Builtin.append_

end Go.Proofs.YtckbgeedlobfaaaDoor

/-
  SpecHeads, plainly.
-/
namespace Go.Px.Spec
open Go.Px Go.Px.Scan

/-- A relation of levels: a terminal that did not come has none. -/
def RlT (a b:List (ByteArray×Int)):Prop:=∀s,(lvT a s).getD 0=(lvT b s).getD 0
theorem RlT.put {a b:List (ByteArray×Int)} (h:RlT a b) (t:ByteArray) (n:Nat):RlT (putT a t n) (putT b t n):=fun s=>by
 rw [lvT_put,lvT_put]
 by_cases e:s=t
 ·rw [if_pos e,if_pos e]
  by_cases hn:n=0
  ·rw [if_pos hn,if_pos hn,h t]
  ·rw [if_neg hn,if_neg hn]
 ·rw [if_neg e,if_neg e];exact h s
theorem RlT.puts (l:List ByteArray) (n:Nat):∀{a b:List (ByteArray×Int)},RlT a b→RlT (l.foldl (fun ts t=>putT ts t n) a) (l.foldl (fun ts t=>putT ts t n) b):=by
 induction l with
 | nil=>exact fun h=>h
 | cons t l ih=>exact fun h=>ih (h.put t n)
theorem RlT.keys (ks:List RKey):∀{a b:List (ByteArray×Int)},RlT a b→RlT (ks.foldl kNum a) (ks.foldl kNum b):=by
 induction ks with
 | nil=>exact fun h=>h
 | cons k ks ih=>exact fun h=>ih (RlT.puts _ 0 h)
theorem RlT.heads (hs:List (Nat×List ByteArray)):∀{a b:List (ByteArray×Int)} (lv:List Int),RlT a b→RlT (hs.foldl hstep (a,lv)).1 (hs.foldl hstep (b,lv)).1∧(hs.foldl hstep (a,lv)).2=(hs.foldl hstep (b,lv)).2:=by
 induction hs with
 | nil=>exact fun lv h=>⟨h,rfl⟩
 | cons x hs ih =>
  intro a b lv h
  rw [List.foldl_cons,List.foldl_cons]
  have e:∀a:List (ByteArray×Int),hstep (a,lv) x=(x.2.foldl (fun ts t=>putT ts t (if 0<x.1 then (if 0<x.1 then lv++[(x.1:Int)] else lv).length else 0)) a,if 0<x.1 then lv++[(x.1:Int)] else lv):=fun a=>rfl
  rw [e,e]
  exact ih _ (RlT.puts _ _ h)
/-- Names that are there are there still; no others come. -/
theorem names_puts (l:List ByteArray) (n:Nat) (N:List ByteArray):∀a:List (ByteArray×Int),a.map (·.1)=N→(∀t∈l,t∈N)→(l.foldl (fun ts t=>putT ts t n) a).map (·.1)=N:=by
 induction l with
 | nil=>exact fun a h _=>h
 | cons t l ih =>
  intro a h ht
  exact ih _ (by rw [putT_names,h,addB_in (ht t (by simp))]) fun x hx=>ht x (by simp [hx])
theorem names_keys (ks:List RKey) (N:List ByteArray):∀a:List (ByteArray×Int),a.map (·.1)=N→(∀k∈ks,∀t∈rkT k,t∈N)→(ks.foldl kNum a).map (·.1)=N:=by
 induction ks with
 | nil=>exact fun a h _=>h
 | cons k ks ih =>
  intro a h hk
  exact ih _ (names_puts _ 0 N a h (hk k (by simp))) fun x hx=>hk x (by simp [hx])
theorem names_heads (hs:List (Nat×List ByteArray)) (N:List ByteArray):∀a:List (ByteArray×Int)×List Int,a.1.map (·.1)=N→(∀x∈hs,∀t∈x.2,t∈N)→((hs.foldl hstep a).1).map (·.1)=N:=by
 induction hs with
 | nil=>exact fun a h _=>h
 | cons x hs ih =>
  intro a h hx
  refine ih _ ?_ fun y hy=>hx y (by simp [hy])
  unfold hstep
  exact names_puts _ _ N a.1 h (hx x (by simp))
/-- What is put is there. -/
theorem mem_puts (l:List ByteArray) (n:Nat) (t:ByteArray):∀a:List (ByteArray×Int),t∈a.map (·.1)∨t∈l→t∈(l.foldl (fun ts t=>putT ts t n) a).map (·.1):=by
 induction l with
 | nil=>intro a h;rcases h with h | h;exact h;cases h
 | cons x l ih =>
  intro a h
  refine ih _ ?_
  rw [putT_names,mem_addB]
  rcases h with h | h
  ·exact .inl (.inl h)
  ·rcases List.mem_cons.1 h with h | h
   ·exact .inl (.inr h)
   ·exact .inr h
theorem mem_keys (ks:List RKey) (t:ByteArray):∀a:List (ByteArray×Int),t∈a.map (·.1)∨(∃k∈ks,t∈rkT k)→t∈(ks.foldl kNum a).map (·.1):=by
 induction ks with
 | nil=>intro a h;rcases h with h | ⟨k,h,_⟩;exact h;cases h
 | cons x ks ih =>
  intro a h
  refine ih _ ?_
  rcases h with h | ⟨k,hk,ht⟩
  ·exact .inl (mem_puts _ 0 t a (.inl h))
  ·rcases List.mem_cons.1 hk with rfl | hk
   ·exact .inl (mem_puts _ 0 t a (.inr ht))
   ·exact .inr ⟨k,hk,ht⟩
theorem mem_heads (hs:List (Nat×List ByteArray)) (t:ByteArray):∀a:List (ByteArray×Int)×List Int,t∈a.1.map (·.1)∨(∃x∈hs,t∈x.2)→t∈((hs.foldl hstep a).1).map (·.1):=by
 induction hs with
 | nil=>intro a h;rcases h with h | ⟨k,h,_⟩;exact h;cases h
 | cons x hs ih =>
  intro a h
  refine ih _ ?_
  rcases h with h | ⟨k,hk,ht⟩
  ·exact .inl (mem_puts _ _ t a.1 (.inl h))
  ·rcases List.mem_cons.1 hk with rfl | hk
   ·exact .inl (mem_puts _ _ t a.1 (.inr ht))
   ·exact .inr ⟨k,hk,ht⟩
/-- A header that lists all terminals first, in order, turns nothing. -/
theorem heads_same {hs:List (Nat×List ByteArray)} {ks:List RKey} {ts:List ByteArray} (hd:(noT::ts).Nodup) (hT:(ks.foldl kNum (tmOf hs)).map (·.1)=noT::ts) :
  ks.foldl kNum (tmOf ((0,ts)::hs))=ks.foldl kNum (tmOf hs)∧lvOf ((0,ts)::hs)=lvOf hs:=by
 have h0:hstep ([(noT,0)],[]) (0,ts)=(ts.foldl (fun u t=>putT u t 0) [(noT,0)],[]):=rfl
 have hb0:RlT (ts.foldl (fun u t=>putT u t 0) [(noT,(0:Int))]) [(noT,0)]:=fun s=>by
  rw [lvT_fold0]
  split
  ·simp
  ·rfl
 have hn0:(ts.foldl (fun u t=>putT u t 0) [(noT,(0:Int))]).map (·.1)=noT::ts:=by
  rw [names_put]
  have:∀(l a:List ByteArray),(a++l).Nodup→l.foldl addB a=a++l:=fun l=>by
   induction l with
   | nil=>intro a _;simp
   | cons x l ih =>
    intro a ha
    have hx:x∉a:=fun h=>by
     have:=List.nodup_append.1 ha
     exact this.2.2 x h x (by simp) rfl
    have e:addB a x=a++[x]:=by unfold addB;rw [if_neg fun h=>hx (hasB_iff.1 h)]
    rw [List.foldl_cons,e,ih (a++[x]) (by simpa using ha)];simp
  exact this ts [noT] hd
 have hr:=RlT.heads hs ([]:List Int) hb0
 have e1:tmOf ((0,ts)::hs)=(hs.foldl hstep (ts.foldl (fun u t=>putT u t 0) [(noT,(0:Int))],[])).1:=rfl
 have e2:lvOf ((0,ts)::hs)=(hs.foldl hstep (ts.foldl (fun u t=>putT u t 0) [(noT,(0:Int))],[])).2:=rfl
 have e3:tmOf hs=(hs.foldl hstep ([(noT,(0:Int))],[])).1:=rfl
 refine ⟨?_,by rw [e2,hr.2];rfl⟩
 rw [e1]
 have hk:=RlT.keys ks hr.1
 rw [←e3] at hk
 have hn:(ks.foldl kNum (hs.foldl hstep (ts.foldl (fun u t=>putT u t 0) [(noT,(0:Int))],[])).1).map (·.1)=noT::ts:=by
  refine names_keys ks _ _ (names_heads hs _ _ hn0 fun x hx t ht=>?_) fun k hk t ht=>?_
  ·rw [←hT]
   refine mem_keys ks t _ (.inl ?_)
   rw [e3]
   exact mem_heads hs t _ (.inr ⟨x,hx,ht⟩)
  ·rw [←hT];exact mem_keys ks t _ (.inr ⟨k,hk,ht⟩)
 generalize ks.foldl kNum (hs.foldl hstep (ts.foldl (fun u t=>putT u t 0) [(noT,(0:Int))],[])).1=A at hk hn ⊢
 generalize ks.foldl kNum (tmOf hs)=C at hk hT ⊢
 refine tm_ext (by rw [hn,hT]) (by rw [hn];exact hd) fun s=>?_
 have:=hk s
 by_cases hs:s∈noT::ts
 ·cases h1:lvT A s with
  | none=>exact absurd hs (by rw [←hn];exact lvT_none.1 h1)
  | some x =>
   cases h2:lvT C s with
   | none=>exact absurd hs (by rw [←hT];exact lvT_none.1 h2)
   | some y=>rw [h1,h2] at this;rw [show x=y from this]
 ·rw [lvT_none.2 (by rw [hn];exact hs),lvT_none.2 (by rw [hT];exact hs)]
end Go.Px.Spec

/-
  SpecHeads, plainly: the machine.
-/
namespace Go.Px.Spec
open Go.Px Go.Px.Scan
/-- The text of the first rule's name. -/
def fstQ:List Wd→ByteArray
 | w::l=>if isCol l then w.2.1 else fstQ l
 | []=>noT
theorem col_begin {m mf:Mc} {w:Wd} {l:List Wd} {d:Dec} (hd:dec m.ph m.heads m.start w=some d) (hg:goM (app m w d) l=(mf,[])) (hc:isCol l=true):d = .begin:=by
 have hf:=dec_from hd
 cases l with
 | nil=>cases hc
 | cons c l =>
  obtain ⟨d2,hd2,_⟩:=go_cons hg
  have h5:=dec_col hd2 hc
  cases d with
  | word=>have h6:m.ph=6:=hf.1;have h5:m.ph=5:=h5;omega
  | begin=>rfl
  | head d=>have h5:1=5:=h5;omega
  | start0=>have h5:3=5:=h5;omega
  | list=>have h5:2=5:=h5;omega
  | semi0=>have h5:0=5:=h5;omega
  | startN=>have h5:4=5:=h5;omega
  | another=>have h5:6=5:=h5;omega
  | close=>have h5:9=5:=h5;omega
  | prec=>have h5:7=5:=h5;omega
  | none_=>have h5:8=5:=h5;omega
  | by_=>have h5:8=5:=h5;omega
theorem app_lefts (m:Mc) (w:Wd) (d:Dec):(d = .begin∧(app m w d).lefts=m.lefts++[w.2.1])∨(d ≠ .begin∧(app m w d).lefts=m.lefts):=by
 cases d with
 | begin=>exact .inl ⟨rfl,rfl⟩
 | _=>exact .inr ⟨by simp,rfl⟩
theorem lefts_pre {l:List Wd}:∀{m mf:Mc},goM m l=(mf,[])→∃r,mf.lefts=m.lefts++r:=by
 induction l with
 | nil=>intro m mf h;cases h;exact ⟨[],by simp⟩
 | cons w l ih =>
  intro m mf h
  obtain ⟨d,_,h2⟩:=go_cons h
  obtain ⟨r,hr⟩:=ih h2
  rcases app_lefts m w d with ⟨_,e⟩ | ⟨_,e⟩
  ·exact ⟨w.2.1::r,by rw [hr,e];simp⟩
  ·exact ⟨r,by rw [hr,e]⟩
theorem go_first {l:List Wd}:∀{m mf:Mc},goM m l=(mf,[])→endOk mf=true→m.lefts=[]→m.ph≤4→∃r,mf.lefts=fstQ l::r:=by
 induction l with
 | nil=>intro m mf h he _ hp;cases h;simp [endOk] at he;omega
 | cons w l ih =>
  intro m mf h he hl hp
  obtain ⟨d,hd,h2⟩:=go_cons h
  have hf:=dec_from hd
  rw [fstQ]
  by_cases hc:isCol l=true
  ·have:=col_begin hd h2 hc
   subst this
   obtain ⟨r,hr⟩:=lefts_pre h2
   rw [if_pos hc]
   exact ⟨r,by rw [hr];show (m.lefts++[w.2.1])++r=_;rw [hl];rfl⟩
  ·rw [if_neg hc]
   have hb:d ≠ .begin:=fun e=>by subst e;exact hc (go_five (m:=app m w .begin) rfl h2 he)
   rcases app_lefts m w d with ⟨e,_⟩ | ⟨_,e⟩
   ·exact absurd e hb
   ·refine ih h2 he (by rw [e,hl]) ?_
    by_cases h5:5≤(app m w d).ph
    ·rcases app_ph hf h5 with e | ⟨e,_⟩
     ·exact absurd e hb
     ·omega
    ·omega

structure HM (pre:List (Nat×List ByteArray)) (st0:Option ByteArray) (m m':Mc):Prop where
 ph:m'.ph=m.ph
 rule:m'.rule=m.rule
 lefts:m'.lefts=m.lefts
 rows:m'.rows=m.rows
 heads:m'.heads=pre++m.heads
 st:(st0=none∧m'.start=m.start)∨(∃f,st0=some f∧m'.start=f∧m.start=noT∧m.ph≠3)
 h1:m.ph=1∨m.ph=2→m.heads≠[]
 side:pre≠[]→∀h∈m.heads,1≤h.1

theorem kn_fold (s:ByteArray) (hs:List (Nat×List ByteArray)):(∀h∈hs,1≤h.1)→∀a b:Nat,a=b∨(a≤1∧b≤1)→((hs.foldl (fun a h=>if hasB h.2 s then min h.1 1+1 else a) a=2)↔(hs.foldl (fun a h=>if hasB h.2 s then min h.1 1+1 else a) b=2)):=by
 induction hs with
 | nil =>
  intro _ a b h
  show a=2↔b=2
  omega
 | cons x hs ih =>
  intro hx a b h
  rw [List.foldl_cons,List.foldl_cons]
  refine ih (fun y hy=>hx y (by simp [hy])) _ _ ?_
  by_cases hb:hasB x.2 s=true
  ·rw [if_pos hb,if_pos hb];exact .inl rfl
  ·rw [if_neg hb,if_neg hb];exact h
theorem decL_pre {ts:List ByteArray} {hs:List (Nat×List ByteArray)} (hne:hs≠[]) (hx:∀h∈hs,1≤h.1) (s:ByteArray):decL ((0,ts)::hs) s=decL hs s:=by
 have h2:kn ((0,ts)::hs) s=2↔kn hs s=2:=by
  unfold kn
  rw [List.foldl_cons]
  refine kn_fold s hs hx _ _ (.inr ⟨?_,by omega⟩)
  split <;> simp
 obtain ⟨a,x,e⟩:∃a x,hs=a++[x]:=by
  rcases List.eq_nil_or_concat hs with e | ⟨a,x,e⟩
  ·exact absurd e hne
  ·exact ⟨a,x,by simpa using e⟩
 have hs1:sideL hs=x.1:=by rw [e,side_snoc]
 have hs2:sideL ((0,ts)::hs)=x.1:=by rw [e,←List.cons_append,side_snoc]
 have hx1:1≤x.1:=hx x (by rw [e];simp)
 unfold decL
 by_cases h:kn hs s=2
 ·rw [if_pos (.inl (h2.2 h)),if_pos (.inl h)]
 ·rw [if_neg (by rw [hs2];have:=fun h'=>h (h2.1 h');omega),if_neg (by rw [hs1];omega)]
theorem dec_pre {ph:Nat} {hs hs':List (Nat×List ByteArray)} {st st':ByteArray} {w:Wd} (h0:ph=0→w.1=3→decH st' w=decH st w) (h1:ph=1∨ph=2→decL hs' w.2.1=decL hs w.2.1):dec ph hs' st' w=dec ph hs st w:=by
 match ph with
 | 0 =>
  show (if w.1=3 then decH st' w else decB w)=(if w.1=3 then decH st w else decB w)
  by_cases h:w.1=3
  ·rw [if_pos h,if_pos h,h0 rfl h]
  ·rw [if_neg h,if_neg h]
 | 1=>show (if isTB w then decL hs' w.2.1 else none)=(if isTB w then decL hs w.2.1 else none);rw [h1 (.inl rfl)]
 | 2=>show (if isTB w then decL hs' w.2.1 else _)=(if isTB w then decL hs w.2.1 else _);rw [h1 (.inr rfl)]
 | 3=>rfl
 | 4=>rfl
 | 5=>rfl
 | 6=>rfl
 | 7=>rfl
 | 8=>rfl
 | 9=>rfl
 | n+10=>rfl
theorem HM.app {pre:List (Nat×List ByteArray)} {st0:Option ByteArray} {m m':Mc} {w:Wd} {d:Dec} (h:HM pre st0 m m') (hf:FromPh m.ph w d) (hT:pre≠[]→isOr w kToken=false) (hS:st0≠none→isOr w kStart=false):HM pre st0 (Spec.app m w d) (Spec.app m' w d):=by
 have hst:(Spec.app m w d).start=m.start→(Spec.app m' w d).start=m'.start→(Spec.app m w d).ph≠3→(st0=none∧(Spec.app m' w d).start=(Spec.app m w d).start)∨(∃f,st0=some f∧(Spec.app m' w d).start=f∧(Spec.app m w d).start=noT∧(Spec.app m w d).ph≠3):=fun e1 e2 e3=>by
  rw [e1,e2]
  rcases h.st with h | ⟨f,h1,h2,h3,_⟩
  ·exact .inl h
  ·exact .inr ⟨f,h1,h2,h3,e3⟩
 cases d with
 | begin=>exact ⟨rfl,rfl,by show m'.lefts++_=m.lefts++_;rw [h.lefts],h.rows,h.heads,hst rfl rfl (by show 5≠3;omega),by show 5=1∨5=2→_;omega,h.side⟩
 | head d =>
  refine ⟨rfl,h.rule,h.lefts,h.rows,by show m'.heads++_=pre++(m.heads++_);rw [h.heads,List.append_assoc],hst rfl rfl (by show 1≠3;omega),fun _=>by show m.heads++_≠[];simp,fun hp x hx=>?_⟩
  have hx:x∈m.heads++[(d,[])]:=hx
  rcases List.mem_append.1 hx with hx | hx
  ·exact h.side hp x hx
  ·rw [List.mem_singleton.1 hx]
   obtain ⟨_,h3,hs⟩:=hf
   have hk:w.2.1≠kToken:=fun e=>by
    have:=hT hp
    simp [isOr,h3,e] at this
   unfold sideOf at hs
   rw [if_neg hk] at hs
   show 1≤d
   split at hs
   ·injection hs with hs;omega
   split at hs
   ·injection hs with hs;omega
   split at hs
   ·injection hs with hs;omega
   ·cases hs
 | start0 =>
  refine ⟨rfl,h.rule,h.lefts,h.rows,h.heads,?_,by show 3=1∨3=2→_;omega,h.side⟩
  rcases h.st with e | ⟨f,e,_⟩
  ·exact .inl e
  ·have:=hS (by rw [e];simp)
   rw [hf.2] at this;cases this
 | list =>
  have hne:=h.h1 hf.1
  obtain ⟨a,x,e1,e2⟩:=modLast_ex (f:=fun h:Nat×List ByteArray=>(h.1,h.2++[w.2.1])) hne
  refine ⟨rfl,h.rule,h.lefts,h.rows,?_,hst rfl rfl (by show 2≠3;omega),fun _=>by show modLast m.heads _≠[];rw [e2];simp,fun hp y hy=>?_⟩
  ·show modLast m'.heads _=pre++modLast m.heads _
   rw [h.heads,e2,e1,←List.append_assoc,modLast_snoc,List.append_assoc]
  ·have hy:y∈modLast m.heads _:=hy
   rw [e2] at hy
   rcases List.mem_append.1 hy with hy | hy
   ·exact h.side hp y (by rw [e1];simp [hy])
   ·rw [List.mem_singleton.1 hy];exact h.side hp x (by rw [e1];simp)
 | semi0=>exact ⟨rfl,h.rule,h.lefts,h.rows,h.heads,hst rfl rfl (by show 0≠3;omega),by show 0=1∨0=2→_;omega,h.side⟩
 | startN =>
  refine ⟨rfl,h.rule,h.lefts,h.rows,h.heads,?_,by show 4=1∨4=2→_;omega,h.side⟩
  rcases h.st with ⟨e,_⟩ | ⟨f,e,_,_,e3⟩
  ·exact .inl ⟨e,rfl⟩
  ·exact absurd hf.1 e3
 | another=>exact ⟨rfl,h.rule,h.lefts,by show m'.rows++[_]=m.rows++[_];rw [h.rows,h.rule],h.heads,hst rfl rfl (by show 6≠3;omega),by show 6=1∨6=2→_;omega,h.side⟩
 | close=>exact ⟨rfl,h.rule,h.lefts,h.rows,h.heads,hst rfl rfl (by show 9≠3;omega),by show 9=1∨9=2→_;omega,h.side⟩
 | word=>exact ⟨h.ph,h.rule,h.lefts,by show modLast m'.rows _=modLast m.rows _;rw [h.rows],h.heads,hst rfl rfl (by have:=hf.1;show m.ph≠3;omega),h.h1,h.side⟩
 | prec=>exact ⟨rfl,h.rule,h.lefts,by show modLast m'.rows _=modLast m.rows _;rw [h.rows],h.heads,hst rfl rfl (by show 7≠3;omega),by show 7=1∨7=2→_;omega,h.side⟩
 | none_=>exact ⟨rfl,h.rule,h.lefts,by show modLast m'.rows _=modLast m.rows _;rw [h.rows],h.heads,hst rfl rfl (by show 8≠3;omega),by show 8=1∨8=2→_;omega,h.side⟩
 | by_=>exact ⟨rfl,h.rule,h.lefts,by show modLast m'.rows _=modLast m.rows _;rw [h.rows],h.heads,hst rfl rfl (by show 8≠3;omega),by show 8=1∨8=2→_;omega,h.side⟩
theorem heads_go {pre:List (Nat×List ByteArray)} {st0:Option ByteArray} (hpre:pre=[]∨∃ts,pre=[(0,ts)]) (hf0:∀f,st0=some f→f≠noT) (l:List Wd):∀{m m' mf:Mc},(pre≠[]→∀w∈l,isOr w kToken=false)→(st0≠none→∀w∈l,isOr w kStart=false)→HM pre st0 m m'→goM m l=(mf,[])→∃mf',goM m' l=(mf',[])∧HM pre st0 mf mf':=by
 induction l with
 | nil=>intro m m' mf _ _ hm hg;cases hg;exact ⟨m',rfl,hm⟩
 | cons w l ih =>
  intro m m' mf hT hS hm hg
  obtain ⟨d,hd,hg2⟩:=go_cons hg
  have hf:=dec_from hd
  obtain ⟨mf',e1,e2⟩:=ih (fun h x hx=>hT h x (by simp [hx])) (fun h x hx=>hS h x (by simp [hx])) (hm.app hf (fun h=>hT h w (by simp)) fun h=>hS h w (by simp)) hg2
  refine ⟨mf',go_of ?_ e1,e2⟩
  rw [hm.ph,←hd]
  refine dec_pre (fun h0 h3=>?_) fun h12=>?_
  ·rcases hm.st with ⟨_,e⟩ | ⟨f,ef,e1,e2,_⟩
   ·rw [e]
   ·have hk:w.2.1≠kStart:=fun e=>by
     have:=hS (by rw [ef];simp) w (by simp)
     simp [isOr,h3,e] at this
    unfold decH
    cases sideOf w.2.1 with
    | some d=>rfl
    | none=>simp [hk]
  ·rw [hm.heads]
   rcases hpre with e | ⟨ts,e⟩
   ·rw [e];rfl
   ·rw [e];exact decL_pre (hm.h1 h12) (hm.side (by rw [e];simp)) _

/-- The words of the headers. -/
def hdS (f:ByteArray):List Wd:=[(3,kStart,0),(1,f,0),(4,sSemi,0)]
def hdT (ts:List ByteArray):List Wd:=(3,kToken,0)::(ts.map fun t=>(2,t,0))++[(4,sSemi,0)]
theorem go_hdS {f:ByteArray} {l:List Wd}:goM m0 (hdS f++l)=goM {m0 with start:=f } l:=by
 unfold hdS
 rw [List.cons_append,List.cons_append,List.cons_append,List.nil_append]
 rw [goM_step (m':={m0 with ph:=3 }) (by rw [step_dec];rfl),goM_step (m':={m0 with ph:=4,start:=f }) (by rw [step_dec];rfl),goM_step (m':={m0 with start:=f }) (by rw [step_dec];rfl)]
theorem go_ts {st:ByteArray} (ts:List ByteArray):∀(done:List ByteArray) (ph:Nat) (l:List Wd),ph=1∨ph=2→(done++ts).Nodup→goM ⟨ph,[(0,done)],st,noT,[],[]⟩ ((ts.map fun t=>(2,t,0))++l)=goM ⟨if ts=[] then ph else 2,[(0,done++ts)],st,noT,[],[]⟩ l:=by
 induction ts with
 | nil=>intro done ph l _ _;simp
 | cons t ts ih =>
  intro done ph l hp hd
  have hn:t∉done:=fun h=>(List.nodup_append.1 hd).2.2 t h t (by simp) rfl
  have hk:kn [(0,done)] t=0:=by
   show (if hasB done t then min 0 1+1 else 0)=0
   rw [if_neg fun h=>hn (hasB_iff.1 h)]
  have hl:decL [(0,done)] t=some .list:=by
   unfold decL;rw [hk,if_neg (by omega)]
  have hs:stepM ⟨ph,[(0,done)],st,noT,[],[]⟩ (2,t,0)=some ⟨2,[(0,done++[t])],st,noT,[],[]⟩:=by
   rw [step_dec]
   have:dec ph [(0,done)] st (2,t,0)=some .list:=by
    rcases hp with rfl | rfl
    ·show (if isTB (2,t,0) then decL [(0,done)] t else none)=_
     rw [hl];rfl
    ·show (if isTB (2,t,0) then decL [(0,done)] t else if isSg (2,t,0) sSemi then some .semi0 else none)=_
     rw [hl];rfl
   rw [this];rfl
  rw [List.map_cons,List.cons_append,goM_step hs,ih (done++[t]) 2 l (.inr rfl) (by simpa using hd)]
  have e:(if ts=[] then 2 else 2)=2:=by split <;> rfl
  rw [e,if_neg (by simp),List.append_assoc];rfl
theorem go_hdT {st:ByteArray} {ts:List ByteArray} {l:List Wd} (hne:ts≠[]) (hd:ts.Nodup):goM {m0 with start:=st } (hdT ts++l)=goM {m0 with start:=st,heads:=[(0,ts)] } l:=by
 unfold hdT
 rw [List.cons_append,List.cons_append,List.append_assoc]
 rw [goM_step (m':=⟨1,[(0,[])],st,noT,[],[]⟩) (by rw [step_dec];rfl),go_ts ts [] 1 _ (.inl rfl) (by simpa using hd),if_neg hne,List.nil_append]
 rw [List.singleton_append,goM_step (m':={m0 with start:=st,heads:=[(0,ts)] }) (by rw [step_dec];rfl)]

/-- Texts with headers ahead. -/
theorem heads_out {l:List Wd} {mf:Mc} {bT bS:Bool} {ts:List ByteArray} (hg:goM m0 l=(mf,[])) (he:endOk mf=true) (hT:bT=true→∀w∈l,isOr w kToken=false) (hS:bS=true→∀w∈l,isOr w kStart=false)
  (hne:bT=true→ts≠[]) (hd:(noT::ts).Nodup) (hts:((keys mf).foldl kNum (tmOf mf.heads)).map (·.1)=noT::ts) (hf:fstQ l≠noT) :
  ∃mf',goM m0 ((if bS then hdS (fstQ l) else [])++((if bT then hdT ts else [])++l))=(mf',[])∧endOk mf'=true∧outM mf'=outM mf:=by
 obtain ⟨r,hr⟩:=go_first hg he rfl (by simp [m0])
 have hm:HM (if bT then [(0,ts)] else []) (if bS then some (fstQ l) else none) m0 {m0 with start:=if bS then fstQ l else noT,heads:=if bT then [(0,ts)] else [] }:=by
  refine ⟨rfl,rfl,rfl,rfl,by show _=_++[];rw [List.append_nil],?_,by simp [m0],by simp [m0]⟩
  cases bS with
  | false=>exact .inl ⟨rfl,rfl⟩
  | true=>exact .inr ⟨fstQ l,rfl,rfl,rfl,by simp [m0]⟩
 obtain ⟨mf',e1,e2⟩:=heads_go (by cases bT;exact .inl rfl;exact .inr ⟨ts,rfl⟩) (fun f h=>by cases bS;cases h;injection h with h;rw [←h];exact hf) l (fun h=>hT (by cases bT;exact absurd rfl h;rfl)) (fun h=>hS (by cases bS;exact absurd rfl h;rfl)) hm hg
 refine ⟨mf',?_,?_,?_⟩
 ·rw [←e1]
  cases bS with
  | false =>
   cases bT with
   | false=>rfl
   | true=>exact go_hdT (st:=noT) (hne rfl) (List.nodup_cons.1 hd).2
  | true =>
   cases bT with
   | false=>exact go_hdS
   | true=>exact go_hdS.trans (go_hdT (hne rfl) (List.nodup_cons.1 hd).2)
 ·unfold endOk at he ⊢
  rw [e2.ph,e2.lefts]
  rcases e2.st with ⟨_,e⟩ | ⟨f,ef,e,_,_⟩
  ·rw [e];exact he
  ·have:f=fstQ l:=by cases bS;cases ef;injection ef with ef;exact ef.symm
   rw [e,this,hr]
   simp at he
   simp [he.1,hasB]
 ·have hk:keys mf'=keys mf:=by unfold keys;rw [e2.lefts,e2.rows]
  have hh:(keys mf).foldl kNum (tmOf mf'.heads)=(keys mf).foldl kNum (tmOf mf.heads)∧lvOf mf'.heads=lvOf mf.heads:=by
   rw [e2.heads]
   cases bT with
   | false=>exact ⟨rfl,rfl⟩
   | true=>exact heads_same hd hts
  unfold outM
  rw [hk,hh.1,hh.2,e2.lefts]
  rcases e2.st with ⟨_,e⟩ | ⟨f,ef,e,e3,_⟩
  ·rw [e]
  ·have:f=fstQ l:=by cases bS;cases ef;injection ef with ef;exact ef.symm
   have hp:posN (dd mf.lefts) (fstQ l)=0∧0<(dd mf.lefts).length:=by
    rw [hr]
    have:∀(r a:List ByteArray),∃q,r.foldl addB (fstQ l::a)=fstQ l::q:=fun r=>by
     induction r with
     | nil=>exact fun a=>⟨a,rfl⟩
     | cons x r ih =>
      intro a
      rw [List.foldl_cons]
      unfold addB
      split
      ·exact ih a
      ·exact ih (a++[x])
    obtain ⟨q,hq⟩:=this r []
    have e:dd (fstQ l::r)=fstQ l::q:=by
     unfold dd;rw [List.foldl_cons];exact hq
    rw [e];exact ⟨by rw [posN,if_pos rfl],by simp⟩
   rw [e,e3,this]
   unfold outT
   rw [if_pos rfl,if_neg hf]
   have:nonX ((keys mf).foldl kNum (tmOf mf.heads)).length (dd mf.lefts) (fstQ l)=(((keys mf).foldl kNum (tmOf mf.heads)).length:Int):=by
    unfold nonX;rw [hp.1,if_pos hp.2];simp
   rw [this]
end Go.Px.Spec

/-
  SpecHeads: what is told, plainly; the text of headers.
-/
namespace Go.Px.Spec
open Go.Px Go.Px.Scan
theorem jn_app (a:List Wd):∀b:List Wd,jn (a++b)=jn a++jn b:=fun b=>by
 have:∀(b:List Wd) (T:ByteArray),b.foldl (fun T w=>T++wr w++(⟨#[32]⟩:ByteArray)) T=T++jn b:=fun b=>by
  induction b with
  | nil=>intro T;apply bs_ext;simp [jn]
  | cons w b ih =>
   intro T
   have e:jn (w::b)=b.foldl (fun T w=>T++wr w++(⟨#[32]⟩:ByteArray)) ((⟨#[]⟩:ByteArray)++wr w++(⟨#[32]⟩:ByteArray)):=rfl
   rw [List.foldl_cons,e,ih,ih]
   apply bs_ext;simp
 unfold jn
 rw [List.foldl_append]
 exact this b _
/-- The %token header, as the law writes it. -/
def hdrF (ts:List ByteArray):ByteArray:=ts.foldl (fun T t=>T++(⟨#[32,39]⟩:ByteArray)++t++(⟨#[39]⟩:ByteArray)) kToken
theorem hdrF_snoc (ts:List ByteArray) (t:ByteArray):hdrF (ts++[t])=hdrF ts++(⟨#[32,39]⟩:ByteArray)++t++(⟨#[39]⟩:ByteArray):=by simp [hdrF]
theorem hdrF_jn (ts:List ByteArray):jn ((3,kToken,0)::ts.map fun t=>(2,t,0))=hdrF ts++(⟨#[32]⟩:ByteArray):=by
 rcases List.eq_nil_or_concat ts with e | ⟨a,t,e⟩
 ·subst e;rfl
 ·have e':ts=a++[t]:=by simpa using e
  subst e'
  have hlen:a.length<(a++[t]).length:=by simp
  have ih:=hdrF_jn a
  rw [List.map_append,←List.cons_append,jn_app,ih,hdrF_snoc]
  apply bs_ext
  simp [jn,wr,quo]
termination_by ts.length
theorem hdT_jn (ts:List ByteArray) (l:List Wd):hdrF ts++(⟨#[32,59,32]⟩:ByteArray)++jn l=jn (hdT ts++l):=by
 unfold hdT
 rw [jn_app,jn_app,hdrF_jn]
 apply bs_ext
 simp [jn,wr,sSemi]
theorem hdS_jn (f:ByteArray) (l:List Wd):(⟨#[37,115,116,97,114,116,32]⟩:ByteArray)++f++(⟨#[32,59,32]⟩:ByteArray)++jn l=jn (hdS f++l):=by
 unfold hdS
 rw [jn_app]
 apply bs_ext
 simp [jn,wr,sSemi,kStart]
theorem nW_app (a b:List Wd):nW (a++b)=nW a+nW b:=by simp [nW]
theorem wp_or {t:ByteArray} (h:whole t=true∧0<t.size):WP (3,t,0):=⟨by simp,by simp,fun _=>h.1,by simp,by simp,h.2⟩
end Go.Px.Spec
namespace Go.Proofs.YtckbgeedlobfaaaDoor
open Go.Px Go.Px.Scan Go.Px.Spec Go.RowKit
/-- What SpecHeads says, plainly. -/
theorem heads_ref {s:ByteArray} {l:List Wd} {bT bS:Bool} (hw:wordsS s=(l,none)) (hb:badS s<0) (hn:nW l+1400≤8192) (h0:(refG s).2.1=0) (hT:bT=true→∀w∈l,isOr w kToken=false) (hS:bS=true→∀w∈l,isOr w kStart=false)
  (hne:bT=true→1<(refG s).1.terms.length):(jn ((if bS then hdS (fstQ l) else [])++((if bT then hdT ((refG s).1.terms.tail.map (·.1)) else [])++l))).size≤8192∧refG s=refG (jn ((if bS then hdS (fstQ l) else [])++((if bT then hdT ((refG s).1.terms.tail.map (·.1)) else [])++l)))∧fstQ l≠noT∧(fstQ l).size≤16∧(∀t∈(refG s).1.terms.tail,t.1.size≤16)∧(refG s).1.terms.length≤65:=by
 obtain ⟨_,m,hg,he⟩:=bad_acc hb
 have F:=(goM_mi s hg).fin he
 rw [hw] at hg
 have hwp:=words_wp s
 rw [hw] at hwp
 have hv:ValidP (refG s).1:=by
  rcases ref_plain s with ⟨_,_,h,_⟩ | ⟨h,_⟩ | ⟨h,_⟩
  ·exact h
  ·omega
  ·omega
 have ho:=ref_acc hw hg he
 have hts:(refG s).1.terms=(keys m).foldl kNum (tmOf m.heads):=by
  rw [ho] at h0 ⊢
  unfold outM outT at h0 ⊢
  split at h0
  ·cases h0
  ·rename_i hh;rw [if_neg hh]
 obtain ⟨ts,hte⟩:∃ts,(refG s).1.terms=(noT,0)::ts:=by
  have:=hv.syms.t0
  cases hl:(refG s).1.terms with
  | nil=>rw [hl] at this;cases this
  | cons x r=>rw [hl] at this;injection this with this;exact ⟨r,by rw [this];rfl⟩
 have hterm:∀t∈ts,TermP t.1:=fun t ht=>by
  have:=hv.syms.terms t (by rw [hte];exact ht)
  exact this.1
 have hnd:(noT::ts.map (·.1)).Nodup:=by
  refine List.nodup_cons.2 ⟨fun h=>?_,?_⟩
  ·obtain ⟨t,ht,e⟩:=List.mem_map.1 h
   have:=(hterm t ht).1
   rw [e] at this;exact absurd this (by decide)
  ·have:=hv.syms.tnd;rw [hte] at this;exact this
 obtain ⟨r,hr⟩:=go_first hg he rfl (by simp [m0])
 have hfN:NameP (fstQ l):=F.ln _ (by rw [hr];simp)
 have hf:fstQ l≠noT:=noT_size hfN.1
 have hlen:=hv.syms.t1
 have htl:(refG s).1.terms.tail=ts:=by rw [hte];rfl
 rw [htl]
 obtain ⟨m',g1,g2,g3⟩:=heads_out (bT:=bT) (bS:=bS) (ts:=ts.map (·.1)) hg he hT hS (fun h=>by
  have:=hne h;rw [hte] at this
  intro e
  cases ts with
  | nil=>simp at this
  | cons x ts=>cases e) hnd (by rw [←hts,hte];rfl) hf
 have hwp':∀w∈(if bS then hdS (fstQ l) else [])++((if bT then hdT (ts.map (·.1)) else [])++l),WP w:=fun w hx=>by
  rcases List.mem_append.1 hx with hx | hx
  ·cases bS with
   | false=>cases hx
   | true =>
    have hx:w∈hdS (fstQ l):=hx
    simp [hdS] at hx
    rcases hx with rfl | rfl | rfl
    ·exact wp_or (by decide +kernel)
    ·exact ⟨fun _=>hfN,by simp,by simp,by simp,by simp,hfN.1⟩
    ·exact wp_semi
  ·rcases List.mem_append.1 hx with hx | hx
   ·cases bT with
    | false=>cases hx
    | true =>
     have hx:w∈hdT (ts.map (·.1)):=hx
     unfold hdT at hx
     rcases List.mem_append.1 hx with hx | hx
     ·rcases List.mem_cons.1 hx with rfl | hx
      ·exact wp_or (by decide +kernel)
      ·obtain ⟨t,ht,rfl⟩:=List.mem_map.1 hx
       obtain ⟨t',ht',rfl⟩:=List.mem_map.1 ht
       have:=hterm t' ht'
       exact ⟨by simp,fun _=>this,by simp,by simp,by simp,this.1⟩
     ·rw [List.mem_singleton.1 hx];exact wp_semi
   ·exact hwp w hx
 have hsz:(jn ((if bS then hdS (fstQ l) else [])++((if bT then hdT (ts.map (·.1)) else [])++l))).size≤8192:=by
  refine Nat.le_trans (jn_size _) ?_
  rw [nW_app,nW_app]
  have h1:nW (if bS then hdS (fstQ l) else [])≤40:=by
   cases bS with
   | false=>show (0:Nat)≤40;omega
   | true =>
    have:=hfN.2.1
    show 6+3+((fstQ l).size+3+(1+3+0))≤40;omega
  have h2:nW (if bT then hdT (ts.map (·.1)) else [])≤1300:=by
   cases bT with
   | false=>show (0:Nat)≤1300;omega
   | true =>
    have e:nW ((ts.map (·.1)).map fun t=>((2:Int),t,(0:Int)))≤ts.length*19:=by
     refine Nat.le_trans (nW_le (k:=16) fun w hw=>?_) (by simp)
     obtain ⟨t,ht,rfl⟩:=List.mem_map.1 hw
     obtain ⟨t',ht',rfl⟩:=List.mem_map.1 ht
     exact (hterm t' ht').2.1
    have hl:ts.length≤64:=by rw [hte] at hlen;simp at hlen;omega
    have:nW (hdT (ts.map (·.1)))=6+3+nW ((ts.map (·.1)).map fun t=>((2:Int),t,(0:Int)))+(1+3):=by
     unfold hdT;rw [nW_app];rfl
    rw [if_pos rfl,this];omega
  omega
 exact ⟨hsz,jn_ref hwp' hsz hw hg he g1 g2 g3,hf,hfN.2.1,fun t ht=>(hterm t ht).2.1,hlen⟩
end Go.Proofs.YtckbgeedlobfaaaDoor

/-
  SpecHeads: the law.
-/
namespace Go.Proofs.YtckbgeedlobfaaaDoor
open Go.Px Go.Px.Scan Go.Px.Spec Go.RowKit
attribute [-go_sem] Builtin.append_ law04_SpecHeads.b8 law04_SpecHeads.b7_1 law04_SpecHeads.b7 law04_SpecHeads.b13 law04_SpecHeads.b17_1 law04_SpecHeads.b17 law04_SpecHeads.b14 law04_SpecHeads.b11 law04_SpecHeads.b18 law04_SpecHeads.b10 law04_SpecHeads.b9_1 law04_SpecHeads.b9 law04_SpecHeads.b5 law04_SpecHeads.b24 law04_SpecHeads.b29_1 law04_SpecHeads.b29 law04_SpecHeads.b28_1 law04_SpecHeads.b28_2 law04_SpecHeads.b28_3 law04_SpecHeads.b28 law04_SpecHeads.b27_1 law04_SpecHeads.b27_2 law04_SpecHeads.b27 law04_SpecHeads.b26_1 law04_SpecHeads.b26_2 law04_SpecHeads.b26 law04_SpecHeads.b22 law04_SpecHeads.b19 law04_SpecHeads.b3 law04_SpecHeads.b31 law04_SpecHeads.b30_1 law04_SpecHeads.b30 law04_SpecHeads.b1_1 law04_SpecHeads.b1_2

theorem no_text (t:ByteArray):t.toList.isEmpty=decide (t=noT):=by
 rw [Bool.eq_iff_iff];simp [←toList_inj,show noT.toList=[] by decide +kernel]

section
variable {w1 w:World} {R:EP} {A Ao:Option Addr} {c co:Nat} {l:List Wd} {i:Nat} {L:List Ch}
/-- The first rule's name. -/
theorem heads28 {C:Value→Value→Value→VP} {t s:Bool} {F:ByteArray} (k:Nat) (hi:i<l.length) (hll:l.length≤8192) (st:St noB w1 w L) (hk:L[k]?=some (rowC 46 3 A l.length c (l.flatMap encW)))
  (hC:C (.bool t) (.bool s) (.string (if F=noT∧isCol (l.drop (i+1))=true then l[i].2.1 else F)) (.int .i64 ((i+1:Nat):Int)) w) :
  law04_SpecHeads.b28 R C (.slice A l.length c) (.bool t) (.bool s) (.string F) (.int .i64 i) w:=by
 obtain ⟨_,g,rfl,e0,e1,e2⟩:=word_at st hk hi
 have wi:IntKind.i64.wrap ((i:Int)+1)=(i:Int)+1:=IntWalk.i64_in _ (by omega)
 have q0:(i:Int)<l.length:=by omega
 have no:¬(F=noT∧isCol (l.drop (i+1))=true)→law04_SpecHeads.b29 R C (.slice (some ⟨g,0,none⟩) l.length c) (.bool t) (.bool s) (.string F) (.int .i64 i) (.bool false) w:=fun h=>by
  rw [if_neg h] at hC
  unfold law04_SpecHeads.b29
  simp -dsimp [go_sem]
  unfold law04_SpecHeads.b24
  simp -dsimp [go_sem,wi]
  exact hC
 unfold law04_SpecHeads.b28
 simp -dsimp [go_sem]
 rw [no_text]
 refine SPL_intro (fun p0=>?_) (fun p0=>?_) <;> simp at p0
 ·unfold law04_SpecHeads.b28_3
  simp -dsimp [go_sem,wi]
  refine SPL_intro (fun p1=>?_) (fun p1=>?_)
  ·have p1:i+1<l.length:=by simp at p1;omega
   have hcol:=isCol_at p1
   obtain ⟨_,g',hg',f0,f1,f2⟩:=word_at st hk p1
   injection hg' with hg';injection hg' with hg';subst hg'
   have q1:(i:Int)+1<l.length:=by omega
   have t1:((i:Int)+1).toNat=i+1:=by omega
   have t2:(0:Int)≤(i:Int)+1:=by omega
   unfold law04_SpecHeads.b28_2
   simp -dsimp [go_sem,wi,q1,t1,t2,f0,f1]
   refine SPL_intro (fun h1=>?_) (fun h1=>?_) <;> simp at h1
   ·unfold law04_SpecHeads.b28_1
    simp -dsimp [go_sem,wi,q1,t1,t2,f0,f1]
    rw [col_text]
    by_cases h2:l[i+1].2.1=sColon
    ·rw [if_pos ⟨p0,by rw [hcol];simp [isSg,h1,h2]⟩] at hC
     unfold law04_SpecHeads.b29
     simp -dsimp [go_sem,h2]
     unfold law04_SpecHeads.b29_1
     simp -dsimp [go_sem,q0,hi,e1]
     unfold law04_SpecHeads.b24
     simp -dsimp [go_sem,wi]
     exact hC
    ·simp only [h2,decide_false]
     exact no fun h=>by have:=h.2;rw [hcol] at this;simp [isSg,h2] at this
   ·exact no fun h=>by have:=h.2;rw [hcol] at this;simp [isSg,h1] at this
  ·have p1:l.length≤i+1:=by simp at p1;omega
   exact no fun h=>by have:=h.2;rw [isCol_end p1] at this;cases this
 ·exact no fun h=>p0 h.1
theorem heads26 {C:Value→Value→Value→VP} {t s:Bool} {F:ByteArray} (k:Nat) (hi:i<l.length) (hll:l.length≤8192) (st:St noB w1 w L) (hk:L[k]?=some (rowC 46 3 A l.length c (l.flatMap encW)))
  (hC:C (.bool (t || isOr l[i] kToken)) (.bool (s || isOr l[i] kStart)) (.string (if F=noT∧isCol (l.drop (i+1))=true then l[i].2.1 else F)) (.int .i64 ((i+1:Nat):Int)) w) :
  law04_SpecHeads.b26 R C (.slice A l.length c) (.bool t) (.bool s) (.string F) (.int .i64 i) w:=by
 have go:=fun t s h=>heads28 (R:=R) (C:=C) (t:=t) (s:=s) (F:=F) k hi hll st hk h
 obtain ⟨_,g,rfl,e0,e1,e2⟩:=word_at st hk hi
 have q0:(i:Int)<l.length:=by omega
 have go27:∀t',t'=(t || isOr l[i] kToken)→law04_SpecHeads.b27 R C (.slice (some ⟨g,0,none⟩) l.length c) (.bool t') (.bool s) (.string F) (.int .i64 i) w:=fun t' ht'=>by
  subst ht'
  unfold law04_SpecHeads.b27
  cases s with
  | true =>
   rw [Bool.true_or] at hC
   simp -dsimp [go_sem]
   exact go _ _ hC
  | false =>
   rw [Bool.false_or] at hC
   simp -dsimp [go_sem]
   unfold law04_SpecHeads.b27_2
   simp -dsimp [go_sem,q0,hi,e0]
   refine SPL_intro (fun h1=>?_) (fun h1=>?_) <;> simp at h1
   ·unfold law04_SpecHeads.b27_1
    simp -dsimp [go_sem,q0,hi,e1]
    rw [start_text]
    rw [show isOr l[i] kStart=decide (l[i].2.1=kStart) by simp [isOr,h1]] at hC
    exact go _ _ hC
   ·rw [show isOr l[i] kStart=false by simp [isOr,h1]] at hC
    exact go _ _ hC
 unfold law04_SpecHeads.b26
 cases t with
 | true=>simp -dsimp [go_sem];exact go27 true (by simp)
 | false =>
  simp -dsimp [go_sem]
  unfold law04_SpecHeads.b26_2
  simp -dsimp [go_sem,q0,hi,e0]
  refine SPL_intro (fun h1=>?_) (fun h1=>?_) <;> simp at h1
  ·unfold law04_SpecHeads.b26_1
   simp -dsimp [go_sem,q0,hi,e1]
   rw [token_text]
   exact go27 _ (by simp [isOr,h1])
  ·exact go27 _ (by simp [isOr,h1])
end

theorem SpecHeads_ct {s:ByteArray} {w:World} {B:Nat} (hs:s.size≤maxLen) (hO:Ord w B) (hB:B≤w.heap.size) :
  Ct Tryd.prog law04_SpecHeads.id #[.string s] w fun v w'=>v = .bool true∧Chg noB w w':=by
 refine law04_SpecHeads.ct fun R hR=>?_
 unfold law04_SpecHeads.run law04_SpecHeads.b1
 refine CALL_of (awake_ct hO hB) ?_
 rintro _ w1 ⟨rfl,hc1⟩
 have ord:∀w',Chg noB w1 w'→Ord w' B∧B≤w'.heap.size:=fun w' hc=>⟨hO.chg (hc1.trans hc) hB fun _ _=>id,by have:=(hc1.trans hc).size;omega⟩
 have fin:∀w',Chg noB w1 w'→R (.returned (.bool true)) w':=fun w' hc=>hR _ _ ⟨rfl,hc1.trans hc⟩
 have o1:=ord w1 (Chg.refl _ _)
 refine CALL_of (good_ct (m:=1400) hs (by omega) o1.1 o1.2) ?_
 rintro _ w2 ⟨A,c,rfl,s2⟩
 have hlen:=words_len s
 have hwp:=words_wp s
 have hws:∀x∈(wordsS s).1,x.2.1.size≤16:=fun x hx=>word_sz hx
 unfold law04_SpecHeads.b1_2
 simp -dsimp [go_sem]
 have o2:=ord w2 s2.chg
 refine CALL_of (Read_as hs o2.1 o2.2) ?_
 rintro _ w3 ⟨vg,rfl,hr,hc3⟩
 obtain ⟨x,hx⟩:∃x,refG s=x:=⟨_,rfl⟩
 have href:=@heads_ref s
 rw [hx] at hr href ⊢
 obtain ⟨A1,c1,A2,c2,A3,c3,A4,c4,rfl,ht1,_⟩:=(rGram_open hr).ex
 unfold law04_SpecHeads.b1_1
 refine take2 (s2.old hc3) fun q1 q2 w4 hc4 s4=>?_
 have k1:=(s4.box 2 rfl).1
 simp [boxAt,mB] at k1
 unfold law04_SpecHeads.b30
 simp -dsimp [go_sem]
 refine SPL_intro (fun h=>?_) (fun h=>?_)
 ·unfold law04_SpecHeads.b31
  simp -dsimp [go_sem]
  exact fin _ s4.chg
 have h:(wordsS s).2=none∧badS s<0∧nW (wordsS s).1+1400≤8192:=by simpa using h
 obtain ⟨h1,h2,h3⟩:=h
 obtain ⟨l,hl⟩:∃l,wordsS s=(l,none):=⟨(wordsS s).1,by rw [←h1]⟩
 rw [hl] at s4 hlen hwp hws h3 ⊢
 have hlen:l.length≤8192:=hlen
 have h3:nW l+1400≤8192:=h3
 have s4:St noB w1 w4 [rowC 46 3 A l.length c (l.flatMap encW),boxC q1 28 [.slice A1 x.1.terms.length c1,.slice A2 x.1.nons.length c2,.slice A3 x.1.levels.length c3,.int .i64 x.1.start,.slice A4 x.1.prods.length c4],boxC q2 31 (mB x.2.1 x.2.2)]:=s4
 unfold law04_SpecHeads.b30_1
 simp -dsimp [go_sem,k1]
 unfold law04_SpecHeads.b31
 refine SPL_intro (fun h4=>?_) (fun h4=>?_) <;> simp at h4
 ·exact fin _ s4.chg
 have href:=fun bT bS=>href (l:=l) (bT:=bT) (bS:=bS) hl h2 h3 h4
 obtain ⟨tn,htn⟩:∃tn,x.1.terms.tail.map (·.1)=tn:=⟨_,rfl⟩
 rw [htn] at href
 have htl:tn.length=x.1.terms.length-1:=by rw [←htn];simp
 have hti:∀(k:Nat) (h:k<tn.length) (h':k+1<x.1.terms.length),x.1.terms[k+1].1=tn[k]:=fun k h h'=>by subst htn;simp
 unfold law04_SpecHeads.b3 law04_SpecHeads.b19
 refine law04_SpecHeads.l21_intro _ _ _ _ _ _ _ _ _ _ (fun y8 y9 y10 y11 w'=>∃(i:Nat) (t u:Bool) (F:ByteArray),y8 = .bool t∧y9 = .bool u∧y10 = .string F∧y11 = .int .i64 i∧i≤l.length∧(t=false→∀w∈l.take i,isOr w kToken=false)∧(u=false→∀w∈l.take i,isOr w kStart=false) ∧
   (if F=noT then fstQ (l.drop i) else F)=fstQ l∧w'=w4)
  (fun _ _ _ y _=>l.length-iv y) ⟨0,false,false,noT,rfl,rfl,rfl,rfl,by omega,by simp,by simp,by simp,rfl⟩ ?_
 rintro _ _ _ _ w5 ⟨i,t,u,F,rfl,rfl,rfl,rfl,hi,htk,hst,hF,rfl⟩ C21 hC
 unfold law04_SpecHeads.b22
 simp -dsimp [go_sem]
 refine SPL_intro (fun p1=>?_) (fun p1=>?_) <;> simp at p1
 ·refine heads26 0 p1 hlen s4 rfl (hC _ _ _ _ _ ⟨i+1,_,_,_,rfl,rfl,rfl,rfl,p1,fun h=>?_,fun h=>?_,?_,rfl⟩ (by simp [iv];omega))
  ·have h:t=false∧isOr l[i] kToken=false:=by simpa using h
   intro w hw
   rw [List.take_succ_eq_append_getElem p1] at hw
   rcases List.mem_append.1 hw with hw | hw
   ·exact htk h.1 w hw
   ·rw [List.mem_singleton.1 hw];exact h.2
  ·have h:u=false∧isOr l[i] kStart=false:=by simpa using h
   intro w hw
   rw [List.take_succ_eq_append_getElem p1] at hw
   rcases List.mem_append.1 hw with hw | hw
   ·exact hst h.1 w hw
   ·rw [List.mem_singleton.1 hw];exact h.2
  ·have hn:=noT_size (hwp l[i] (List.getElem_mem p1)).2.2.2.2.2
   rw [←hF]
   by_cases e:F=noT
   ·rw [if_pos e,List.drop_eq_getElem_cons p1,fstQ]
    by_cases hcl:isCol (l.drop (i+1))=true
    ·have e2:(if F=noT∧isCol (l.drop (i+1))=true then l[i].2.1 else F)=l[i].2.1:=if_pos ⟨e,hcl⟩
     rw [e2,if_neg hn,if_pos hcl]
    ·have e2:(if F=noT∧isCol (l.drop (i+1))=true then l[i].2.1 else F)=F:=if_neg fun h=>hcl h.2
     rw [e2,if_pos e,if_neg hcl]
   ·have e2:(if F=noT∧isCol (l.drop (i+1))=true then l[i].2.1 else F)=F:=if_neg fun h=>e h.1
    rw [e2,if_neg e,if_neg e]
 ·have hil:i=l.length:=by omega
  rw [hil,List.take_length] at htk hst
  rw [hil,List.drop_length] at hF
  have hF:F=fstQ l:=by
   by_cases e:F=noT
   ·rw [if_pos e] at hF;rw [e];exact hF
   ·rw [if_neg e] at hF;exact hF
  subst hF
  unfold law04_SpecHeads.b5
  refine CALL_of (joined_ct s4 (k:=0) rfl (by omega) fun y hy=>by have:=hws y hy;omega) ?_
  rintro _ w6 ⟨rfl,hc6⟩
  have s6:=s4.old hc6
  have hjl:(jn l).size≤8192:=by have:=jn_size l;omega
    -- the end
  have g8:∀w',Chg noB w1 w'→∀T:ByteArray,T.size≤8192→x=refG T→law04_SpecHeads.b8 R (.string s) (.bool true) (.string T) w':=fun w' hc T hT he=>by
   have o:=ord w' hc
   unfold law04_SpecHeads.b8
   refine CALL_of (alike_ct hs (t:=T) (by unfold maxLen;omega) o.1 o.2) ?_
   rintro _ w7 ⟨rfl,hc7⟩
   rw [hx,←he,eqB_of rfl]
   simp -dsimp [go_sem]
   exact fin _ (hc.trans hc7)
  have hbig:∀{a b:ByteArray},a.size≤100000→b.size≤100000→a.size+b.size≤maxLen:=fun h1 h2=>by unfold maxLen;omega
  have g7:∀w',Chg noB w1 w'→∀bT:Bool,(bT=true→t=false∧1<x.1.terms.length)→law04_SpecHeads.b7 R (.string s) (.bool true) (.bool u) (.string (fstQ l)) (.string (jn ((if bT then hdT tn else [])++l))) w':=fun w' hc bT hbT=>by
   unfold law04_SpecHeads.b7
   cases u with
   | true =>
    obtain ⟨z1,z2,_⟩:=href bT false (fun h=>htk (hbT h).1) (by simp) fun h=>(hbT h).2
    simp -dsimp [go_sem]
    exact g8 w' hc _ z1 z2
   | false =>
    obtain ⟨z1,z2,z3,z4,_⟩:=href bT true (fun h=>htk (hbT h).1) (fun _=>hst rfl) fun h=>(hbT h).2
    obtain ⟨y1,_⟩:=href bT false (fun h=>htk (hbT h).1) (by simp) fun h=>(hbT h).2
    simp only [if_true,Bool.false_eq_true,if_false,List.nil_append] at z1 z2 y1
    have y1':=y1
    rw [←hdS_jn] at z1 z2
    have a1:((⟨#[37,115,116,97,114,116,32]⟩:ByteArray)++fstQ l).size=7+(fstQ l).size:=by rw [ByteArray.size_append];rfl
    have a2:((⟨#[37,115,116,97,114,116,32]⟩:ByteArray)++fstQ l++(⟨#[32,59,32]⟩:ByteArray)).size=7+(fstQ l).size+3:=by rw [ByteArray.size_append,a1];rfl
    simp -dsimp [go_sem]
    unfold law04_SpecHeads.b7_1
    rw [RUN_eq,addS _ _ (hbig (by decide) (by omega)),RES_ok,RUN_eq,addS _ _ (hbig (by omega) (by decide)),RES_ok,RUN_eq,addS _ _ (hbig (by omega) (by omega)),RES_ok]
    exact g8 w' hc _ z1 z2
  have hno:=g7 w6 s6.chg false (by simp)
  simp only [Bool.false_eq_true,if_false,List.nil_append] at hno
  have k0:=(s6.box 1 rfl).1
  simp [boxAt] at k0
  unfold law04_SpecHeads.b9
  cases t with
  | true =>
   simp -dsimp [go_sem]
   unfold law04_SpecHeads.b10
   simp -dsimp [go_sem]
   unfold law04_SpecHeads.b18
   exact hno
  | false =>
   simp -dsimp [go_sem]
   unfold law04_SpecHeads.b9_1
   simp -dsimp [go_sem,k0]
   unfold law04_SpecHeads.b10
   refine SPL_intro (fun p2=>?_) (fun p2=>?_)
   ·have p2:1<x.1.terms.length:=by simp at p2;omega
    obtain ⟨y1,y2,y3,y4,y5,y6⟩:=href true false (fun _=>htk rfl) (by simp) fun _=>p2
    have hb1:=(hc4.trans hc6).below (Nat.le_refl _) fun _ _=>id
    have ht6:=Rep.below ht1 hb1
    simp only [if_true,Bool.false_eq_true,if_false,List.nil_append] at y1
    unfold law04_SpecHeads.b11 law04_SpecHeads.b14
    refine law04_SpecHeads.l16_intro _ _ _ _ _ _ _ _ _ _ (fun y13 y14 w'=>∃(k:Nat),y13 = .string (hdrF (tn.take k))∧y14 = .int .i64 ((k:Int)+1)∧k+1≤x.1.terms.length∧w'=w6)
     (fun _ y _=>x.1.terms.length-iv y) ⟨0,rfl,rfl,by omega,rfl⟩ ?_
    rintro _ _ w7 ⟨k,rfl,rfl,hk,rfl⟩ C16 hC16
    have hsz:∀k,k≤64→(hdrF (tn.take k)).size≤6+k*19:=fun k=>by
     induction k with
     | zero=>intro _;exact Nat.le_refl _
     | succ k ih =>
      intro hk
      have:=ih (by omega)
      by_cases hkl:k<tn.length
      ·rw [List.take_succ_eq_append_getElem hkl,hdrF_snoc,ByteArray.size_append,ByteArray.size_append,ByteArray.size_append]
       have e:tn[k].size≤16:=by
        have hm:tn[k]∈x.1.terms.tail.map (·.1):=by rw [htn];exact List.getElem_mem hkl
        obtain ⟨t,ht,e⟩:=List.mem_map.1 hm
        rw [←e];exact y5 t ht
       show _+2+_+1≤_
       omega
      ·rw [List.take_of_length_le (by omega)] at this ⊢;omega
    have hszk:=hsz k (by omega)
    unfold law04_SpecHeads.b17
    simp -dsimp [go_sem,k0]
    refine SPL_intro (fun p3=>?_) (fun p3=>?_)
    ·have p3:k+1<x.1.terms.length:=by simp at p3;omega
     obtain ⟨b,o,rfl,_,n1,_⟩:=terms_at ht6 p3
     have hkl:k<tn.length:=by omega
     have hname:=hti k hkl p3
     have hn16:tn[k].size≤16:=by
      have hm:tn[k]∈x.1.terms.tail.map (·.1):=by rw [htn];exact List.getElem_mem hkl
      obtain ⟨t,ht,e⟩:=List.mem_map.1 hm
      rw [←e];exact y5 t ht
     rw [hname] at n1
     have q1:(k:Int)+1<x.1.terms.length:=by omega
     have t1:((k:Int)+1).toNat=k+1:=by omega
     have t2:(0:Int)≤(k:Int)+1:=by omega
     have wk:IntKind.i64.wrap ((k:Int)+1+1)=(k:Int)+1+1:=IntWalk.i64_in _ (by omega)
     have a1:(hdrF (tn.take k)++(⟨#[32,39]⟩:ByteArray)).size=(hdrF (tn.take k)).size+2:=by rw [ByteArray.size_append];rfl
     have a2:(hdrF (tn.take k)++(⟨#[32,39]⟩:ByteArray)++tn[k]).size=(hdrF (tn.take k)).size+2+tn[k].size:=by rw [ByteArray.size_append,a1]
     unfold law04_SpecHeads.b17_1
     rw [RUN_eq,addS _ _ (hbig (by omega) (by decide)),RES_ok]
     have r1:¬9223372036854775807<(hdrF (List.take k tn)).size+2+tn[k].size:=by omega
     have r2:¬9223372036854775807<(hdrF (List.take k tn)).size+2+tn[k].size+1:=by omega
     simp -dsimp [go_sem,k0,q1,t1,t2,n1,r1,r2,wk]
     refine hC16 _ _ _ ⟨k+1,?_,by simp,by omega,rfl⟩ (by simp [iv];omega)
     rw [List.take_succ_eq_append_getElem hkl,hdrF_snoc]
    ·have p3:k+1=x.1.terms.length:=by simp at p3;omega
     have htk:tn.take k=tn:=List.take_of_length_le (by omega)
     have a1:(hdrF tn++(⟨#[32,59,32]⟩:ByteArray)).size=(hdrF tn).size+3:=by rw [ByteArray.size_append];rfl
     rw [htk] at hszk ⊢
     unfold law04_SpecHeads.b13
     rw [RUN_eq,addS _ _ (hbig (by omega) (by decide)),RES_ok,RUN_eq,addS _ _ (hbig (by omega) (by omega)),RES_ok,hdT_jn]
     exact g7 _ s6.chg true fun _=>⟨rfl,p2⟩
   ·unfold law04_SpecHeads.b18
    exact hno
end Go.Proofs.YtckbgeedlobfaaaDoor

/-
  The law SpecHeads returns true for every text whose bulk is at most 1048576, and nothing that was there before the call has turned: the tied card of the second form; its condition is that scan.orders holds its seven texts when the call begins, and no argument takes more than a machine has.
-/
namespace Go.Proofs.YtckbgeedlobfaaaDoor.specHeads
open Go.Px Go.ChangeShapes Go.WideShapes Go.ChangeAt Go.RowKit Go.Px.Scan

set_option maxRecDepth 100000 in
theorem contract (H:Type) (enc:TypeId×Value→H) (W:World) (base:Nat) (args:Array Value) (ds gs:List (DataW H)) (before:List MemPlace)
  (hval:∀(j:Nat) t v,Tryd.f9.params[j]?=some t→args[j]?=some v→Value.okWide Tryd.prog W .any base t v)
  (hW:DataW.Whole enc Tryd.prog Tryd.f9.params.toList Rows.specHeadsSpec.vars false W args.toList ds gs before)
  (hup:Rows.uptoSmall H (ds++gs)=true)
  (hwt:(DataW.weightsEach Tryd.prog (Tryd.f9.params.toList++(Rows.OpenSpec.upto Rows.specHeadsSpec).bare.plain.varTypes Tryd.prog) (ds++gs)).all (·≤reachBytes)=true) (hL:laidMetH Tryd.prog Rows.specHeadsUptoRow.laid W) :
  Calls Tryd.prog 9 args W fun e W'=>∃v,e = .returned v∧Rows.specHeadsSpec.post enc Tryd.prog Tryd.f9 false true false false W args v W':=by
 have hW':=hW
 obtain ⟨p,q,hA0,hV,rfl,hfz,hnd⟩:=hW
 have hA:DataW.TrodAll enc Tryd.prog W 0 (fun _=>true) true Tryd.f9.params.toList args.toList ds p:=hA0
 rw [Tryd.params9] at hA hval hwt
 obtain ⟨v0,vs0,d0,ds0,p0,q0,hargs0,rfl,rfl,h0,r0⟩:=trodAll_cons hA
 obtain ⟨rfl,rfl,rfl⟩:=trodAll_nil r0
 obtain rfl:args=#[v0]:=by cases args;simp_all
 obtain ⟨rfl,rfl⟩:=trodVars_none hV
 have hwt':(DataW.weightsEach Tryd.prog ([9]++[]) ([d0]++[])).all (·≤reachBytes)=true:=hwt
 simp only [List.append_nil,DataW.weightsEach,List.all_append,Bool.and_eq_true] at hwt'
 have ec0:v0.cells=#[v0]:=by obtain ⟨_,rfl⟩:=okWide_string Tryd.underlying9 (hval 0 9 v0 rfl rfl);rfl
 obtain ⟨a0,ha0,hf0,hb0⟩:=open_arg1 opens9 ec0 h0
 have hf0:=hf0 hwt'
 obtain ⟨rfl,hs0⟩:=str_at1 ha0
 have hO:=ord_of_laid hL
 refine (SpecHeads_ct hs0 hO (Nat.le_refl _)).2.mono fun e W' he=>?_
 cases e with
 | returned v =>
  obtain ⟨rfl,hb⟩:=he
  exact ⟨_,rfl,law_post (t:=4) (by kernel_rfl) (fun t ht=>by
   rw [Tryd.params9] at ht
   simp only [List.mem_cons,List.not_mem_nil,or_false] at ht
   rcases ht with rfl <;> exact ⟨by kernel_rfl,by decide +kernel⟩) rfl Tryd.underlying4 rfl hW' rfl rfl rfl (hb.below (Nat.le_refl _) fun _ _=>id)⟩
 | _=>exact he.elim

theorem reads (os:Os) {H:Type} (enc:TypeId×Value→H):∃places,DataW.whole enc Tryd.prog ((laidWorld os).forCall (fun _ _=>0) ⟨#[],#[.string ⟨#[]⟩],[]⟩).memory Tryd.f9.params.toList Rows.specHeadsSpec.vars false #[.string ⟨#[]⟩].toList 8=some ([.lit (.string [])],[],places) :=
 ⟨[],by kernel_rfl⟩

set_option maxRecDepth 100000 in
theorem lifted (os:Os) (started:os.Started) (H:Type) (enc:TypeId×Value→H) (F:Stop.Interp) :
  ReturnsInHanded {} Tryd.checked os 9 .any ((Rows.OpenSpec.upto Rows.specHeadsSpec).preRow enc Tryd.prog Tryd.f9 Rows.specHeadsUptoRow.domain false Rows.specHeadsUptoRow.laid) (((Rows.OpenSpec.upto Rows.specHeadsSpec).at F).post enc Tryd.prog Tryd.f9 false true false false):=by
 obtain ⟨places,hx⟩:=reads os enc
 refine returnsInHanded_of_row (C:=Tryd.checked) (s:=Rows.OpenSpec.upto Rows.specHeadsSpec) own started (by kernel_rfl) Tryd.func9
  (witness_row_atRef (enc:=enc) (C:=Tryd.checked) false (laidWorld os) #[.string ⟨#[]⟩] rfl (by kernel_rfl) (by kernel_rfl) (by kernel_rfl)
   (OpenSpec.preRow_of_cond 8 hx (by kernel_rfl) (fun k hk=>by cases hk;kernel_rfl) (by kernel_rfl) (laid_met os _))) ?_
 intro W base args ds gs before hval hW _ hcond hwt hL _ _
 exact contract H enc W base args ds gs before hval hW (hcond _ rfl) hwt hL

theorem said:Rows.SpecHeadsUptoSaid :=
 OpenClaim.holds_of_cond 9 Tryd.f9 rfl rfl rfl rfl rfl rfl rfl ⟨rfl,rfl,rfl,rfl,rfl⟩ rfl rfl rfl rfl rfl (by kernel_rfl) Tryd.func9 (by kernel_rfl)
  (of_decide_eq_true (by kernel_rfl)) (by unfold Func.isWrapper;first | (rw [if_pos (by decide +kernel)];kernel_rfl) | (rw [if_neg (by decide +kernel)];exact ⟨rfl,rfl⟩))
  (fun os started H enc _ F=>by rw [OpenClaim.pre_eq_preRow];exact lifted os started H enc F)

theorem plain (f:FuncId) (fn:Func) (hf:Tryd.pinned.checked.prog.funcNamed "presage/presagelaw04.SpecHeads" = some f) (hfn:Tryd.pinned.checked.prog.funcs[f]?=some fn) :
  true=Tryd.pinned.checked.prog.looks []∧∀(j:Nat) t,fn.params[j]?=some t→Tryd.pinned.checked.prog.wantsStandIn t=false:=by
 obtain rfl:f=9:=Option.some.inj ((show Tryd.prog.funcNamed "presage/presagelaw04.SpecHeads" = some 9 by kernel_rfl).symm.trans hf) |>.symm
 obtain rfl:fn=Tryd.f9:=(Option.some.inj (Tryd.func9.symm.trans hfn)).symm
 refine ⟨by kernel_rfl,fun j t ht=>?_⟩
 rw [Tryd.params9] at ht
 have hm:=Array.mem_of_getElem? ht
 simp only [List.mem_toArray,List.mem_cons,List.not_mem_nil,or_false] at hm
 rcases hm with rfl
 ·exact (show Tryd.prog.wantsStandIn 9=false by kernel_rfl)

theorem card:Rows.SpecHeadsUptoCardSaid :=
 Claim7.holds_tied_plain_at .later [] _ _ _ _ said (fun _ h=>by cases h) (by kernel_rfl) (fun _ h=>by cases h) specHeadsUpto_row_tie rfl ⟨rfl,rfl⟩ (by kernel_rfl) rfl plain (by kernel_rfl)

end Go.Proofs.YtckbgeedlobfaaaDoor.specHeads

namespace Go.Proofs.YtckbgeedlobfaaaDoor
theorem SpecHeads_holds:Rows.SpecHeadsUptoCardSaid:=specHeads.card
end Go.Proofs.YtckbgeedlobfaaaDoor
#print axioms Go.Proofs.YtckbgeedlobfaaaDoor.SpecHeads_holds
