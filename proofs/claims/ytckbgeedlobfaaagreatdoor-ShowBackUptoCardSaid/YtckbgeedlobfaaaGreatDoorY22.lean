/-
  Texts of this claim: Lq1, Lq2, Lq3, Lq4, Lq5, Lr1, Lr2, Lr3, Lh1, Lh2, Lh3, ShU, ShU2, ShU3.
-/
import Derived.Test.YtckbgeedlobfaaaGreatDoorY21
import Derived.Test.YtckbgeedlobfaaaGreatDoorY19
set_option maxHeartbeats 1000000
set_option linter.unusedSimpArgs false
set_option linter.unusedVariables false
set_option maxRecDepth 100000
namespace Go.Px.Spec
open Go.Px Go.Px.Scan
abbrev RKey:=ByteArray×List (ByteArray×Bool)×Nat×ByteArray
def rk (ls:List ByteArray)(r:RowS):RKey:=(r.left,r.words.map fun w=>(w.2.1,Zdj ls w),r.said,r.by_)
def rkT (k:RKey):List ByteArray:=(k.2.1.filter fun w=> !w.2).map (·.1)++(if k.2.2.1=1 then [k.2.2.2] else [])
def kNum (ts:List (ByteArray×Int))(k:RKey):List (ByteArray×Int):=(rkT k).foldl (fun ts t=>putT ts t 0) ts
def kSym (ts:List (ByteArray×Int))(ls:List ByteArray)(w:ByteArray×Bool):Int:=if w.2 then nonX ts.length ls w.1 else posI ts w.1
def kLev (ts:List (ByteArray×Int))(ls:List ByteArray)(k:RKey):Int :=
 if k.2.2.1=2 then 0 else if k.2.2.1=1 then lvAt ts (posI ts k.2.2.2) else (k.2.1.map (kSym ts ls)).foldl (lev1 ts) 0
def kPr (ts:List (ByteArray×Int))(ls:List ByteArray)(k:RKey):Int×List Int×Int:=(nonX ts.length ls k.1,k.2.1.map (kSym ts ls),kLev ts ls k)
def outT (ts:List (ByteArray×Int))(lv:List Int)(ls:List ByteArray)(st:ByteArray)(ks:List RKey):Gr×Int×Int :=
 if ts.length-1+ls.length > 64∨ks.length > 96 then (⟨[],[],[],0,[]⟩,11,0)
 else (⟨ts,ls,lv,if st=noT then ts.length else nonX ts.length ls st,ks.map (kPr ts ls)⟩,0,0)
def keys (m:Mc):List RKey:=m.rows.map (rk (dd m.lefts))
theorem rk_T (ls:List ByteArray)(r:RowS):rowT ls r=rkT (rk ls r):=by
 unfold rowT rkT rk
 simp only[List.filter_map,List.map_map]
 rfl
theorem ZZ302 (ls:List ByteArray)(ts:List (ByteArray×Int))(r:RowS):numF ls ts r=kNum ts (rk ls r):=by unfold numF kNum;rw[rk_T]
theorem ZZ188 (ls:List ByteArray)(l:List RowS):∀ts:List (ByteArray×Int),l.foldl (numF ls) ts=(l.map (rk ls)).foldl kNum ts:=by
 induction l with
 | nil=>exact fun _=>rfl
 | cons r l ih=>intro ts;rw[List.foldl_cons,List.map_cons,List.foldl_cons,ih,ZZ302]
theorem ZZ218 (ts:List (ByteArray×Int))(ls:List ByteArray)(r:RowS):r.words.map (symX ts ls)=(rk ls r).2.1.map (kSym ts ls):=by
 show _=(r.words.map _).map _
 rw[List.map_map];rfl
theorem rk_pr (x:Rx)(r:RowS):gPr x r=kPr x.ts x.ls (rk x.ls r):=by
 unfold gPr kPr rlev kLev
 rw[ZZ218];rfl
theorem ZZ253 (m:Mc):(numX (rxOf m)).ts=(keys m).foldl kNum (tmOf m.heads):=ZZ188 (dd m.lefts) m.rows (tmOf m.heads)
def outM (m:Mc):Gr×Int×Int:=outT ((keys m).foldl kNum (tmOf m.heads)) (lvOf m.heads) (dd m.lefts) m.start (keys m)
theorem ZZ190 {s:ByteArray}{l:List Wd}{m:Mc}(hs:Zah s=(l,none))(hg:goM m0 l=(m,[]))(he:Zet m=true):refG s=outM m:=by
 have hb:badS s = -1:=by unfold badS;rw[hs];simp only[hg,he,if_true]
 unfold refG
 rw[hb,if_neg (show ¬(0:Int) ≤ -1 by omega),hs]
 simp only[hg]
 unfold outM outT
 rw[←ZZ253]
 have hl:(numX (rxOf m)).rows.length=(keys m).length:=by simp[keys];rfl
 rw[hl]
 have hg:gOf (numX (rxOf m))=⟨(numX (rxOf m)).ts,dd m.lefts,lvOf m.heads,if m.start=noT then ((numX (rxOf m)).ts.length:Int) else nonX (numX (rxOf m)).ts.length (dd m.lefts) m.start,(keys m).map (kPr (numX (rxOf m)).ts (dd m.lefts))⟩:=by
  have:(keys m).map (kPr (numX (rxOf m)).ts (dd m.lefts))=m.rows.map (gPr (numX (rxOf m))):=by
   unfold keys
   rw[List.map_map]
   exact List.map_congr_left fun r _=>(rk_pr _ r).symm
  rw[this];rfl
 rw[hg];rfl
inductive Dec where
 | begin | head (d:Nat) | start0 | list | semi0 | startN | another | close | word | prec | none_ | by_
def decB (w:Wd):Option Dec:=if w.1=1 then some .begin else none
def decL (hs:List (Nat×List ByteArray))(s:ByteArray):Option Dec:=if kn hs s=2∨(sideL hs=0∧0<kn hs s) then none else some .list
def decH (st:ByteArray)(w:Wd):Option Dec:=match Zfs w.2.1 with | some d=>some (.head d) | none=>if w.2.1=Zh2∧st=noT then some .start0 else none
def decW (ph:Nat)(w:Wd):Option Dec :=
 if isSg w sBar then some .another else if isSg w Zge then some .close else if ph=6∧isTB w then some .word else if ph=6∧isOr w Zk4 then some .prec else if ph=6∧isOr w Zns then some .none_ else none
def dec (ph:Nat)(hs:List (Nat×List ByteArray))(st:ByteArray)(w:Wd):Option Dec :=
 match ph with
 | 0=>if w.1=3 then decH st w else decB w
 | 1=>if isTB w then decL hs w.2.1 else none
 | 2=>if isTB w then decL hs w.2.1 else if isSg w Zge then some .semi0 else none
 | 3=>if w.1=1 then some .startN else none
 | 4=>if isSg w Zge then some .semi0 else none
 | 5=>if isSg w Zpk then some .another else none
 | 7=>if isTB w then some .by_ else none
 | 9=>decB w
 | ph=>decW ph w
def app (m:Mc)(w:Wd):Dec→Mc
 | .begin=>{m with ph:=5,rule:=w.2.1,lefts:=m.lefts++[w.2.1] }
 | .head d=>{m with ph:=1,heads:=m.heads++[(d,[])] }
 | .start0=>{m with ph:=3 }
 | .list=>{m with ph:=2,heads:=Zx m.heads fun h=>(h.1,h.2++[w.2.1]) }
 | .semi0=>{m with ph:=0 }
 | .startN=>{m with ph:=4,start:=w.2.1 }
 | .another=>Zcj m
 | .close=>{m with ph:=9 }
 | .word=>{m with rows:=Zx m.rows fun r=>{r with words:=r.words++[w] } }
 | .prec=>{m with ph:=7,rows:=Zx m.rows fun r=>{r with said:=1 } }
 | .none_=>{m with ph:=8,rows:=Zx m.rows fun r=>{r with said:=2 } }
 | .by_=>{m with ph:=8,rows:=Zx m.rows fun r=>{r with by_:=w.2.1 } }
theorem Zdd (m:Mc)(w:Wd):Zbv m w=(dec m.ph m.heads m.start w).map (app m w):=by
 have hb:Zg5 m w=(decB w).map (app m w):=by unfold Zg5 decB;rw[Zb1];rfl
 have hh:Zl4 m w=(decH m.start w).map (app m w):=by
  unfold Zl4 decH
  cases Zfs w.2.1 with
  | some d=>rfl
  | none=>simp only;rw[Zb1];rfl
 have hl:Zob m w.2.1=(decL m.heads w.2.1).map (app m w):=by unfold Zob decL;rw[Zb1];rfl
 have hw:∀ph,m.ph=ph→Ze6 m w=(decW ph w).map (app m w):=fun ph e=>by
  subst e
  unfold Ze6 decW
  rw[Zb1,Zb1,Zb1,Zb1,Zb1];rfl
 have hph:∀ph,m.ph=ph→Zbv m w=(dec ph m.heads m.start w).map (app m w):=fun ph e=>by
  match ph,e with
  | 0,e=>simp only[Zbv,e,dec];rw[Zb1,←hb,←hh]
  | 1,e=>simp only[Zbv,e,dec];rw[Zb1,←hl];rfl
  | 2,e=>simp only[Zbv,e,dec];rw[Zb1,Zb1,←hl];rfl
  | 3,e=>simp only[Zbv,e,dec];rw[Zb1];rfl
  | 4,e=>simp only[Zbv,e,dec];rw[Zb1];rfl
  | 5,e=>simp only[Zbv,e,dec];rw[Zb1];rfl
  | 6,e=>simp only[Zbv,e,dec];exact hw 6 e
  | 7,e=>simp only[Zbv,e,dec];rw[Zb1];rfl
  | 8,e=>simp only[Zbv,e,dec];exact hw 8 e
  | 9,e=>simp only[Zbv,e,dec];exact hb
  | n+10,e=>simp only[Zbv,e,dec];exact hw _ e
 exact hph m.ph rfl
end Go.Px.Spec
namespace Go.Px.Spec
open Go.Px Go.Px.Scan
structure QM (ls:List ByteArray)(m m':Mc):Prop where
 ph:m'.ph=m.ph
 heads:m'.heads=m.heads
 start:m'.start=m.start
 rule:m'.rule=m.rule
 lefts:m'.lefts=m.lefts
 rows:m'.rows.map (rk ls)=m.rows.map (rk ls)
theorem Zvq {ls:List ByteArray}{a b:List RowS}{f f':RowS→RowS}(g:RKey→RKey)(h:a.map (rk ls)=b.map (rk ls))(hf:∀r,rk ls (f r)=g (rk ls r))(hf':∀r,rk ls (f' r)=g (rk ls r)):(Zx a f).map (rk ls)=(Zx b f').map (rk ls):=by
 rw[Zj3 a (rk ls) f g hf,Zj3 b (rk ls) f' g hf',h]
theorem QM.app {ls:List ByteArray}{m m':Mc}{w w':Wd}{d:Dec}(h:QM ls m m')(ht:w'.2.1=w.2.1)(hn:Zdj ls w'=Zdj ls w):QM ls (app m w d) (app m' w' d):=by
 have hr:=h.rows
 cases d with
 | begin=>exact ⟨rfl,h.heads,h.start,ht,by show m'.lefts++[w'.2.1]=m.lefts++[w.2.1];rw[h.lefts,ht],hr⟩
 | head d=>exact ⟨rfl,by show m'.heads++_=m.heads++_;rw[h.heads],h.start,h.rule,h.lefts,hr⟩
 | start0=>exact ⟨rfl,h.heads,h.start,h.rule,h.lefts,hr⟩
 | list=>exact ⟨rfl,by show Zx m'.heads _=Zx m.heads _;rw[h.heads,ht],h.start,h.rule,h.lefts,hr⟩
 | semi0=>exact ⟨rfl,h.heads,h.start,h.rule,h.lefts,hr⟩
 | startN=>exact ⟨rfl,h.heads,ht,h.rule,h.lefts,hr⟩
 | another=>exact ⟨rfl,h.heads,h.start,h.rule,h.lefts,by show (m'.rows++[_]).map _=(m.rows++[_]).map _;rw[List.map_append,List.map_append,hr,h.rule]⟩
 | close=>exact ⟨rfl,h.heads,h.start,h.rule,h.lefts,hr⟩
 | word=>
  refine ⟨h.ph,h.heads,h.start,h.rule,h.lefts,Zvq (fun k=>(k.1,k.2.1++[(w.2.1,Zdj ls w)],k.2.2)) hr (fun r=>?_) (fun r=>?_)⟩
  ·simp[rk,ht,hn]
  ·simp[rk]
 | prec=>exact ⟨rfl,h.heads,h.start,h.rule,h.lefts,Zvq (fun k=>(k.1,k.2.1,1,k.2.2.2)) hr (fun r=>rfl) fun r=>rfl⟩
 | none_=>exact ⟨rfl,h.heads,h.start,h.rule,h.lefts,Zvq (fun k=>(k.1,k.2.1,2,k.2.2.2)) hr (fun r=>rfl) fun r=>rfl⟩
 | by_=>exact ⟨rfl,h.heads,h.start,h.rule,h.lefts,Zvq (fun k=>(k.1,k.2.1,k.2.2.1,w.2.1)) hr (fun r=>by simp[rk,ht]) fun r=>rfl⟩
end Go.Px.Spec
namespace Go.Proofs.YtckbgeedlobfaaaGreatDoor
open Go.Px Go.Px.Scan Go.Px.Spec Go.RowKit
end Go.Proofs.YtckbgeedlobfaaaGreatDoor
namespace Go.Px.Spec
open Go.Px Go.Px.Scan
end Go.Px.Spec
namespace Go.Proofs.YtckbgeedlobfaaaGreatDoor
open Go.Px Go.Px.Scan Go.Px.Spec Go.RowKit
attribute [-go_sem] Builtin.append_
end Go.Proofs.YtckbgeedlobfaaaGreatDoor
namespace Go.Px.Spec
open Go.Px Go.Px.Scan
end Go.Px.Spec
namespace Go.Proofs.YtckbgeedlobfaaaGreatDoor
open Go.Px Go.Px.Scan Go.Px.Spec Go.RowKit
attribute [-go_sem] Builtin.append_
section
variable {w1 w:World} {R:EP} {C6:VP→Value→VP} {C21:Value→VP} {A Ao:Option Addr} {c co:Nat} {l out:List Wd} {i:Nat}
end
end Go.Proofs.YtckbgeedlobfaaaGreatDoor
namespace Go.Proofs.YtckbgeedlobfaaaGreatDoor
open Go.Px Go.Px.Scan Go.Px.Spec Go.RowKit
attribute [-go_sem] Builtin.append_
section
variable {w1 w:World} {R:EP} {A Ao:Option Addr} {c co:Nat} {l out:List Wd} {i:Nat}
end
end Go.Proofs.YtckbgeedlobfaaaGreatDoor
namespace Go.Px.Spec
open Go.Px Go.Px.Scan
def ZZ287 (ph:Nat)(w:Wd):Dec→Prop
 | .begin=>(ph=0∨ph=9)∧w.1=1
 | .head d=>ph=0∧w.1=3∧Zfs w.2.1=some d
 | .start0=>ph=0∧isOr w Zh2=true
 | .list=>(ph=1∨ph=2)∧isTB w=true
 | .semi0=>ph=2∨ph=4
 | .startN=>ph=3∧w.1=1
 | .another=>(ph=5∧isSg w Zpk=true)∨(isSg w sBar=true∧(ph=6∨ph=8∨10≤ph))
 | .close=>isSg w Zge=true∧(ph=6∨ph=8∨10≤ph)
 | .word=>ph=6∧isTB w=true
 | .prec=>ph=6∧isOr w Zk4=true
 | .none_=>ph=6∧isOr w Zns=true
 | .by_=>ph=7∧isTB w=true
structure RM (m m':Mc):Prop where
 ph:m'.ph=m.ph
 heads:m'.heads=m.heads
 start:m'.start=m.start
 rule:m'.rule=m.rule
 lefts:dd m'.lefts=dd m.lefts
 rows:m'.rows=m.rows
theorem RM.app {m m':Mc}{w:Wd}{d:Dec}(h:RM m m'):RM (app m w d) (app m' w d):=by
 have hr:=h.rows
 cases d with
 | begin=>exact ⟨rfl,h.heads,h.start,rfl,by show dd (m'.lefts++[w.2.1])=dd (m.lefts++[w.2.1]);rw[Znr,Znr,h.lefts],hr⟩
 | head d=>exact ⟨rfl,by show m'.heads++_=m.heads++_;rw[h.heads],h.start,h.rule,h.lefts,hr⟩
 | start0=>exact ⟨rfl,h.heads,h.start,h.rule,h.lefts,hr⟩
 | list=>exact ⟨rfl,by show Zx m'.heads _=Zx m.heads _;rw[h.heads],h.start,h.rule,h.lefts,hr⟩
 | semi0=>exact ⟨rfl,h.heads,h.start,h.rule,h.lefts,hr⟩
 | startN=>exact ⟨rfl,h.heads,rfl,h.rule,h.lefts,hr⟩
 | another=>exact ⟨rfl,h.heads,h.start,h.rule,h.lefts,by show m'.rows++[_]=m.rows++[_];rw[hr,h.rule]⟩
 | close=>exact ⟨rfl,h.heads,h.start,h.rule,h.lefts,hr⟩
 | word=>exact ⟨h.ph,h.heads,h.start,h.rule,h.lefts,by show Zx m'.rows _=Zx m.rows _;rw[hr]⟩
 | prec=>exact ⟨rfl,h.heads,h.start,h.rule,h.lefts,by show Zx m'.rows _=Zx m.rows _;rw[hr]⟩
 | none_=>exact ⟨rfl,h.heads,h.start,h.rule,h.lefts,by show Zx m'.rows _=Zx m.rows _;rw[hr]⟩
 | by_=>exact ⟨rfl,h.heads,h.start,h.rule,h.lefts,by show Zx m'.rows _=Zx m.rows _;rw[hr]⟩
theorem Zys:WP (4,Zge,0):=⟨by simp,by simp,by simp,fun _=>⟨rfl,by decide⟩,by simp,by decide⟩
theorem ZZ138:WP (4,Zpk,0):=⟨by simp,by simp,by simp,fun _=>⟨rfl,by decide⟩,by simp,by decide⟩
end Go.Px.Spec
namespace Go.Px
open Go.RowKit
variable {G:Nat→Prop} {W w w':World} {L:List Ch}
end Go.Px
namespace Go.Proofs.YtckbgeedlobfaaaGreatDoor
open Go.Px Go.Px.Scan Go.Px.Spec Go.RowKit
attribute [-go_sem] Builtin.append_
section
variable {w1 w:World} {R:EP} {A Ao:Option Addr} {c co:Nat} {l out:List Wd} {i:Nat}
end
end Go.Proofs.YtckbgeedlobfaaaGreatDoor
namespace Go.Proofs.YtckbgeedlobfaaaGreatDoor
open Go.Px Go.Px.Scan Go.Px.Spec Go.RowKit
attribute [-go_sem] Builtin.append_
end Go.Proofs.YtckbgeedlobfaaaGreatDoor
namespace Go.Px.Spec
open Go.Px Go.Px.Scan
def RlT (a b:List (ByteArray×Int)):Prop:=∀s,(lvT a s).getD 0=(lvT b s).getD 0
theorem RlT.put {a b:List (ByteArray×Int)}(h:RlT a b)(t:ByteArray)(n:Nat):RlT (putT a t n) (putT b t n):=fun s=>by
 rw[Zmt,Zmt]
 by_cases e:s=t
 ·rw[if_pos e,if_pos e]
  by_cases hn:n=0
  ·rw[if_pos hn,if_pos hn,h t]
  ·rw[if_neg hn,if_neg hn]
 ·rw[if_neg e,if_neg e];exact h s
theorem RlT.puts (l:List ByteArray)(n:Nat):∀{a b:List (ByteArray×Int)},RlT a b→RlT (l.foldl (fun ts t=>putT ts t n) a) (l.foldl (fun ts t=>putT ts t n) b):=by
 induction l with
 | nil=>exact fun h=>h
 | cons t l ih=>exact fun h=>ih (h.put t n)
theorem RlT.keys (ks:List RKey):∀{a b:List (ByteArray×Int)},RlT a b→RlT (ks.foldl kNum a) (ks.foldl kNum b):=by
 induction ks with
 | nil=>exact fun h=>h
 | cons k ks ih=>exact fun h=>ih (RlT.puts _ 0 h)
theorem RlT.heads (hs:List (Nat×List ByteArray)):∀{a b:List (ByteArray×Int)} (lv:List Int),RlT a b→RlT (hs.foldl Zd1 (a,lv)).1 (hs.foldl Zd1 (b,lv)).1∧(hs.foldl Zd1 (a,lv)).2=(hs.foldl Zd1 (b,lv)).2:=by
 induction hs with
 | nil=>exact fun lv h=>⟨h,rfl⟩
 | cons x hs ih=>
  intro a b lv h
  rw[List.foldl_cons,List.foldl_cons]
  have e:∀a:List (ByteArray×Int),Zd1 (a,lv) x=(x.2.foldl (fun ts t=>putT ts t (if 0<x.1 then (if 0<x.1 then lv++[(x.1:Int)] else lv).length else 0)) a,if 0<x.1 then lv++[(x.1:Int)] else lv):=fun a=>rfl
  rw[e,e]
  exact ih _ (RlT.puts _ _ h)
theorem Zwp (l:List ByteArray)(n:Nat)(N:List ByteArray):∀a:List (ByteArray×Int),a.map (·.1)=N→(∀t∈l,t∈N)→(l.foldl (fun ts t=>putT ts t n) a).map (·.1)=N:=by
 induction l with
 | nil=>exact fun a h _=>h
 | cons t l ih=>
  intro a h ht
  exact ih _ (by rw[Zfy,h,Zzl (ht t (by simp))]) fun x hx=>ht x (by simp[hx])
theorem Zt0 (hs:List (Nat×List ByteArray))(N:List ByteArray):∀a:List (ByteArray×Int)×List Int,a.1.map (·.1)=N→(∀x∈hs,∀t∈x.2,t∈N)→((hs.foldl Zd1 a).1).map (·.1)=N:=by
 induction hs with
 | nil=>exact fun a h _=>h
 | cons x hs ih=>
  intro a h hx
  refine ih _ ?_ fun y hy=>hx y (by simp[hy])
  unfold Zd1
  exact Zwp _ _ N a.1 h (hx x (by simp))
end Go.Px.Spec
namespace Go.Px.Spec
open Go.Px Go.Px.Scan
structure HM (pre:List (Nat×List ByteArray))(st0:Option ByteArray)(m m':Mc):Prop where
 ph:m'.ph=m.ph
 rule:m'.rule=m.rule
 lefts:m'.lefts=m.lefts
 rows:m'.rows=m.rows
 heads:m'.heads=pre++m.heads
 st:(st0=none∧m'.start=m.start)∨(∃f,st0=some f∧m'.start=f∧m.start=noT∧m.ph≠3)
 h1:m.ph=1∨m.ph=2→m.heads≠[]
 side:pre≠[]→∀h∈m.heads,1≤h.1
theorem HM.app {pre:List (Nat×List ByteArray)}{st0:Option ByteArray}{m m':Mc}{w:Wd}{d:Dec}(h:HM pre st0 m m')(hf:ZZ287 m.ph w d)(hT:pre≠[]→isOr w Zg6=false)(hS:st0≠none→isOr w Zh2=false):HM pre st0 (Spec.app m w d) (Spec.app m' w d):=by
 have hst:(Spec.app m w d).start=m.start→(Spec.app m' w d).start=m'.start→(Spec.app m w d).ph≠3→(st0=none∧(Spec.app m' w d).start=(Spec.app m w d).start)∨(∃f,st0=some f∧(Spec.app m' w d).start=f∧(Spec.app m w d).start=noT∧(Spec.app m w d).ph≠3):=fun e1 e2 e3=>by
  rw[e1,e2]
  rcases h.st with h|⟨f,h1,h2,h3,_⟩
  ·exact .inl h
  ·exact .inr ⟨f,h1,h2,h3,e3⟩
 cases d with
 | begin=>exact ⟨rfl,rfl,by show m'.lefts++_=m.lefts++_;rw[h.lefts],h.rows,h.heads,hst rfl rfl (by show 5≠3;omega),by show 5=1∨5=2→_;omega,h.side⟩
 | head d=>
  refine ⟨rfl,h.rule,h.lefts,h.rows,by show m'.heads++_=pre++(m.heads++_);rw[h.heads,List.append_assoc],hst rfl rfl (by show 1≠3;omega),fun _=>by show m.heads++_≠[];simp,fun hp x hx=>?_⟩
  have hx:x∈m.heads++[(d,[])]:=hx
  rcases List.mem_append.1 hx with hx|hx
  ·exact h.side hp x hx
  ·rw[List.mem_singleton.1 hx]
   obtain ⟨_,h3,hs⟩:=hf
   have hk:w.2.1≠Zg6:=fun e=>by
    have:=hT hp
    simp[isOr,h3,e]at this
   unfold Zfs at hs
   rw[if_neg hk]at hs
   show 1≤d
   split at hs
   ·injection hs with hs;omega
   split at hs
   ·injection hs with hs;omega
   split at hs
   ·injection hs with hs;omega
   ·cases hs
 | start0=>
  refine ⟨rfl,h.rule,h.lefts,h.rows,h.heads,?_,by show 3=1∨3=2→_;omega,h.side⟩
  rcases h.st with e|⟨f,e,_⟩
  ·exact .inl e
  ·have:=hS (by rw[e];simp)
   rw[hf.2]at this;cases this
 | list=>
  have hne:=h.h1 hf.1
  obtain ⟨a,x,e1,e2⟩:=Zlf (f:=fun h:Nat×List ByteArray=>(h.1,h.2++[w.2.1])) hne
  refine ⟨rfl,h.rule,h.lefts,h.rows,?_,hst rfl rfl (by show 2≠3;omega),fun _=>by show Zx m.heads _≠[];rw[e2];simp,fun hp y hy=>?_⟩
  ·show Zx m'.heads _=pre++Zx m.heads _
   rw[h.heads,e2,e1,←List.append_assoc,Zb8,List.append_assoc]
  ·have hy:y∈Zx m.heads _:=hy
   rw[e2]at hy
   rcases List.mem_append.1 hy with hy|hy
   ·exact h.side hp y (by rw[e1];simp[hy])
   ·rw[List.mem_singleton.1 hy];exact h.side hp x (by rw[e1];simp)
 | semi0=>exact ⟨rfl,h.rule,h.lefts,h.rows,h.heads,hst rfl rfl (by show 0≠3;omega),by show 0=1∨0=2→_;omega,h.side⟩
 | startN=>
  refine ⟨rfl,h.rule,h.lefts,h.rows,h.heads,?_,by show 4=1∨4=2→_;omega,h.side⟩
  rcases h.st with ⟨e,_⟩|⟨f,e,_,_,e3⟩
  ·exact .inl ⟨e,rfl⟩
  ·exact absurd hf.1 e3
 | another=>exact ⟨rfl,h.rule,h.lefts,by show m'.rows++[_]=m.rows++[_];rw[h.rows,h.rule],h.heads,hst rfl rfl (by show 6≠3;omega),by show 6=1∨6=2→_;omega,h.side⟩
 | close=>exact ⟨rfl,h.rule,h.lefts,h.rows,h.heads,hst rfl rfl (by show 9≠3;omega),by show 9=1∨9=2→_;omega,h.side⟩
 | word=>exact ⟨h.ph,h.rule,h.lefts,by show Zx m'.rows _=Zx m.rows _;rw[h.rows],h.heads,hst rfl rfl (by have:=hf.1;show m.ph≠3;omega),h.h1,h.side⟩
 | prec=>exact ⟨rfl,h.rule,h.lefts,by show Zx m'.rows _=Zx m.rows _;rw[h.rows],h.heads,hst rfl rfl (by show 7≠3;omega),by show 7=1∨7=2→_;omega,h.side⟩
 | none_=>exact ⟨rfl,h.rule,h.lefts,by show Zx m'.rows _=Zx m.rows _;rw[h.rows],h.heads,hst rfl rfl (by show 8≠3;omega),by show 8=1∨8=2→_;omega,h.side⟩
 | by_=>exact ⟨rfl,h.rule,h.lefts,by show Zx m'.rows _=Zx m.rows _;rw[h.rows],h.heads,hst rfl rfl (by show 8≠3;omega),by show 8=1∨8=2→_;omega,h.side⟩
def hdS (f:ByteArray):List Wd:=[(3,Zh2,0),(1,f,0),(4,Zge,0)]
def hdT (ts:List ByteArray):List Wd:=(3,Zg6,0)::(ts.map fun t=>(2,t,0))++[(4,Zge,0)]
theorem go_ts {st:ByteArray}(ts:List ByteArray):∀(done:List ByteArray) (ph:Nat) (l:List Wd),ph=1∨ph=2→(done++ts).Nodup→goM ⟨ph,[(0,done)],st,noT,[],[]⟩ ((ts.map fun t=>(2,t,0))++l)=goM ⟨if ts=[] then ph else 2,[(0,done++ts)],st,noT,[],[]⟩ l:=by
 induction ts with
 | nil=>intro done ph l _ _;simp
 | cons t ts ih=>
  intro done ph l hp hd
  have hn:t∉done:=fun h=>(List.nodup_append.1 hd).2.2 t h t (by simp) rfl
  have hk:kn [(0,done)] t=0:=by
   show (if hasB done t then min 0 1+1 else 0)=0
   rw[if_neg fun h=>hn (Zae.1 h)]
  have hl:decL [(0,done)] t=some .list:=by
   unfold decL;rw[hk,if_neg (by omega)]
  have hs:Zbv ⟨ph,[(0,done)],st,noT,[],[]⟩ (2,t,0)=some ⟨2,[(0,done++[t])],st,noT,[],[]⟩:=by
   rw[Zdd]
   have:dec ph [(0,done)] st (2,t,0)=some .list:=by
    rcases hp with rfl|rfl
    ·show (if isTB (2,t,0) then decL [(0,done)] t else none)=_
     rw[hl];rfl
    ·show (if isTB (2,t,0) then decL [(0,done)] t else if isSg (2,t,0) Zge then some .semi0 else none)=_
     rw[hl];rfl
   rw[this];rfl
  rw[List.map_cons,List.cons_append,Zcc hs,ih (done++[t]) 2 l (.inr rfl) (by simpa using hd)]
  have e:(if ts=[] then 2 else 2)=2:=by split<;>rfl
  rw[e,if_neg (by simp),List.append_assoc];rfl
theorem ZZ352 {st:ByteArray}{ts:List ByteArray}{l:List Wd}(hne:ts≠[])(hd:ts.Nodup):goM {m0 with start:=st } (hdT ts++l)=goM {m0 with start:=st,heads:=[(0,ts)] } l:=by
 unfold hdT
 rw[List.cons_append,List.cons_append,List.append_assoc]
 rw[Zcc (m':=⟨1,[(0,[])],st,noT,[],[]⟩) (by rw[Zdd];rfl),go_ts ts [] 1 _ (.inl rfl) (by simpa using hd),if_neg hne,List.nil_append]
 rw[List.singleton_append,Zcc (m':={m0 with start:=st,heads:=[(0,ts)] }) (by rw[Zdd];rfl)]
end Go.Px.Spec
namespace Go.Px.Spec
open Go.Px Go.Px.Scan
theorem Zup {t:ByteArray}(h:whole t=true∧0<t.size):WP (3,t,0):=⟨by simp,by simp,fun _=>h.1,by simp,by simp,h.2⟩
end Go.Px.Spec
namespace Go.Proofs.YtckbgeedlobfaaaGreatDoor
open Go.Px Go.Px.Scan Go.Px.Spec Go.RowKit
end Go.Proofs.YtckbgeedlobfaaaGreatDoor
namespace Go.Px.Scan
open Go.Px
def WordP (w:Txt):Prop:=(∃u,w=39::(u++[39])∧(39:UInt8)∉u)∨(∃c r,w=c::r∧c≠39∧(32:UInt8)∉w∧(10:UInt8)∉w)
def Zje (l:Txt×List Txt):Txt:=l.1++Zbk l.2++[10]
def Zov:Txt:=[59]
def Zms (g:Gr)(p:Int×List Int×Int):List Txt :=
 if p.2.2=Zkj g p.2.1 then []
 else if p.2.2=0 then [tNone]
 else [tPrec,symT g ((Za3 g (fun x=>x == p.2.2)).headD 0)]
def tokL (g:Gr):List (Txt×List Txt):=if 1<g.terms.length then [(Zxx,(Za3 g fun _=>true).map (symT g)++[Zov])] else []
def Znx (g:Gr)(i:Nat):Txt×List Txt:=(Zl3 (g.levels.getD i 0),(Za3 g fun x=>x == (i:Int)+1).map (symT g)++[Zov])
def Zkf (g:Gr)(p:Int×List Int×Int):Txt×List Txt:=(symT g p.1,[58]::(p.2.1.map (symT g)++(Zms g p++[Zov])))
def startLine (g:Gr):Txt×List Txt:=(Zlc,[symT g g.start,Zov])
def Zsh (g:Gr):List (Txt×List Txt):=tokL g++((List.range g.levels.length).map (Znx g)++startLine g::g.prods.map (Zkf g))
theorem Zi0 (a:Txt)(l:List Txt):Zje (a,l++[Zov])=a++Zbk l++Zkk:=by
 simp[Zje,Zfv,Zbk,Zov,Zkk]
theorem Zsm (g:Gr)(p:Int×List Int×Int):Zid g p=Zbk (Zms g p):=by
 unfold Zid Zms
 split
 ·rfl
 ·split
  ·rfl
  ·simp[Zcm,Zbk]
theorem Zw7 (g:Gr)(p:Int×List Int×Int):Zoz g p=Zje (Zkf g p):=by
 have e:Zkf g p=(symT g p.1,([58]::(p.2.1.map (symT g)++Zms g p))++[Zov]):=by simp[Zkf]
 rw[e,Zi0,Zoz,Zsm]
 simp[Zcm,Zbk]
theorem Zti (g:Gr)(i:Nat):Zo9 g i=Zje (Znx g i):=by
 rw[Znx,Zi0,Zo9];rfl
theorem Zwo (g:Gr):Zqa g=(tokL g).flatMap Zje:=by
 unfold Zqa tokL
 split
 ·simp only[List.flatMap_cons,List.flatMap_nil,List.append_nil]
  rw[Zi0];rfl
 ·rfl
theorem Zlp (g:Gr):∀k,Zd3 g k=(tokL g).flatMap Zje++((List.range k).map (Znx g)).flatMap Zje
 | 0=>by simp[Zd3,Zwo]
 | k+1=>by
  rw[Zd3,Zlp g k,Zti,List.range_succ]
  simp
theorem ZZ58 (g:Gr):preT g=(tokL g).flatMap Zje++(((List.range g.levels.length).map (Znx g)).flatMap Zje++Zje (startLine g)):=by
 have e:startLine g=(Zlc,[symT g g.start]++[Zov]):=rfl
 rw[preT,Zlp,e,Zi0]
 simp[Zcm]
theorem Zo0 {g:Gr}(hs:∀p∈g.prods,symT g p.1≠Zko):∀(k:Nat) (t:Txt),k≤g.prods.length→Zic g k=some t→t=preT g++((g.prods.take k).map (Zkf g)).flatMap Zje
 | 0,t,_,e=>by
  have:preT g=t:=by simpa[Zic]using e
  rw[←this];simp
 | k+1,t,hk,e=>by
  rw[Zi1 g (by omega)]at e
  cases hn:Zic g k with
  | none=>rw[hn]at e;cases e
  | some t0=>
   rw[hn]at e
   simp only[addP,Option.bind_some]at e
   rw[if_neg (hs _ (List.getElem_mem _))]at e
   split at e
   ·cases e
   ·injection e with e
    have ih:=Zo0 hs k t0 (by omega) hn
    rw[←e,ih,List.take_succ_eq_append_getElem (by omega:k<g.prods.length),Zw7]
    simp only[List.map_append,List.flatMap_append,List.map_cons,List.map_nil,List.flatMap_cons,List.flatMap_nil,List.append_nil,List.append_assoc]
theorem Zuq {g:Gr}(hs:∀p∈g.prods,symT g p.1≠Zko){t:Txt}(h:Zly g=some t):t=(Zsh g).flatMap Zje:=by
 have:=Zo0 hs g.prods.length t (Nat.le_refl _) (by rw[Zon];exact h)
 rw[this,ZZ58,List.take_length]
 simp[Zsh]
end Go.Px.Scan
namespace Go.Px.Scan
open Go.Px
theorem tx_bt {s:ByteArray}{x:UInt8}(h:x∈tx s):∃i,i<s.size∧x.toNat=bt s i:=by
 obtain ⟨i,hi,rfl⟩:=List.mem_iff_getElem.1 h
 rw[Zh1]at hi
 refine ⟨i,hi,?_⟩
 unfold bt
 rw[dif_pos hi]
 simp[tx]
 rfl
theorem ZZ246 {s:ByteArray}(h:0<s.size):∃c r,tx s=c::r∧c.toNat=bt s 0:=by
 cases e:tx s with
 | nil=>
  have:s.size=0:=by rw[←Zh1,e];rfl
  omega
 | cons c r=>
  refine ⟨c,r,rfl,?_⟩
  unfold bt
  rw[dif_pos h]
  have e0:(tx s)[0]'(by rw[Zh1];exact h)=c:=by simp[e]
  rw[←e0]
  simp[tx]
  rfl
theorem ZZ187 {s:ByteArray}(h:Zec s):(39:UInt8)∉tx s:=fun hm=>by
 obtain ⟨i,hi,e⟩:=tx_bt hm
 have:=h.2.2 i hi
 rw[←e]at this
 exact absurd this (by decide)
theorem ZZ30 {s:ByteArray}(h:Zfi s):∃c r,tx s=c::r∧c≠39∧c≠37∧c≠36∧c≠59∧(32:UInt8)∉tx s∧(10:UInt8)∉tx s:=by
 obtain ⟨c,r,e,hc⟩:=ZZ246 h.1
 have h0:=h.2.2.1
 rw[←hc]at h0
 refine ⟨c,r,e,fun e=>?_,fun e=>?_,fun e=>?_,fun e=>?_,fun hm=>?_,fun hm=>?_⟩
 ·rw[e]at h0;exact absurd h0 (by decide)
 ·rw[e]at h0;exact absurd h0 (by decide)
 ·rw[e]at h0;exact absurd h0 (by decide)
 ·rw[e]at h0;exact absurd h0 (by decide)
 all_goals
  obtain ⟨i,hi,e⟩:=tx_bt hm
  have:=h.2.2.2 i hi
  rw[←e]at this
  exact absurd this (by decide)
theorem Zru {α:Type}{l:List α}(h:l.Nodup){i j:Nat}(hi:i<l.length)(hj:j<l.length)(e:l[i]=l[j]):i=j:=by
 rcases Nat.lt_trichotomy i j with c|c|c
 ·exact absurd e (List.pairwise_iff_getElem.1 h i j hi hj c)
 ·exact c
 ·exact absurd e.symm (List.pairwise_iff_getElem.1 h j i hj hi c)
variable {g h:Gr}
theorem Zbh.t0 (v:Zbh g):g.terms=(⟨#[]⟩,0)::g.terms.tail:=by
 have:=v.syms.t0
 cases ht:g.terms with
 | nil=>rw[ht]at this;cases this
 | cons x r=>rw[ht]at this;injection this with this;rw[this];rfl
theorem Zbh.term (v:Zbh g){s:Int}(h1:1≤s)(h2:s<g.terms.length):symT g s=39::(tx (nameOf g s)++[39])∧Zec (nameOf g s):=by
 refine ⟨by unfold symT;rw[if_neg (by omega),if_pos h2];rfl,?_⟩
 unfold nameOf
 have hk:s.toNat<g.terms.length:=by omega
 have hm:g.terms[s.toNat]∈g.terms.tail:=by
  have e:g.terms[s.toNat]=g.terms.tail[s.toNat-1]'(by rw[List.length_tail];omega):=by
   rw[List.getElem_tail];congr 1;omega
  rw[e];exact List.getElem_mem _
 have:=(v.syms.terms _ hm).name
 simpa[hk]using this
theorem Zbh.non (v:Zbh g){s:Int}(h1:(g.terms.length:Int)≤s)(h2:s<(g.terms.length:Int)+g.nons.length):symT g s=tx (Zb0 g s)∧Zfi (Zb0 g s):=by
 have ht:0<g.terms.length:=by rw[v.t0];simp
 have hk:(s-g.terms.length).toNat<g.nons.length:=by omega
 have hn:Zfi (Zb0 g s):=by
  unfold Zb0
  have:=v.syms.nnam (g.nons[(s-g.terms.length).toNat]) (by simp)
  rw[List.getD_eq_getElem?_getD,List.getElem?_eq_getElem hk]
  exact this
 refine ⟨?_,hn⟩
 unfold symT
 rw[if_neg (by omega),if_neg (by omega),if_neg]
 intro e
 have:=hn.1
 rw[e]at this
 exact absurd this (by decide)
theorem Zbh.word (v:Zbh g){s:Int}(h0:Zf5 g s)(h1:1≤s):WordP (symT g s)∧(∃c r,symT g s=c::r∧c≠37∧c≠36∧c≠59∧(c=39↔s<g.terms.length)):=by
 by_cases ht:s<g.terms.length
 ·obtain ⟨e,hn⟩:=v.term h1 ht
  rw[e]
  exact ⟨Or.inl ⟨_,rfl,ZZ187 hn⟩,39,_,rfl,by decide,by decide,by decide,by simp[ht]⟩
 ·obtain ⟨e,hn⟩:=v.non (by omega) h0.2
  obtain ⟨c,r,e2,n1,n2,n3,n4,n5,n6⟩:=ZZ30 hn
  rw[e]
  exact ⟨Or.inr ⟨c,r,e2,n1,n5,n6⟩,c,r,e2,n2,n3,n4,by simp[n1,ht]⟩
theorem Zbh.inj (v:Zbh g){s s':Int}(h0:Zf5 g s)(h1:1≤s)(h0':Zf5 g s')(h1':1≤s')(e:symT g s=symT g s'):s=s':=by
 obtain ⟨_,c,r,e1,_,_,_,hc⟩:=v.word h0 h1
 obtain ⟨_,c',r',e1',_,_,_,hc'⟩:=v.word h0' h1'
 have ec:c=c':=by rw[e1,e1']at e;injection e
 by_cases ht:s<g.terms.length
 ·have ht':s'<g.terms.length:=hc'.1 (ec ▸ hc.2 ht)
  rw[(v.term h1 ht).1,(v.term h1' ht').1]at e
  injection e with _ e
  have e:=Zve (List.append_cancel_right e)
  have nd:=v.syms.tnd
  have k1:s.toNat-1<(g.terms.tail.map (·.1)).length:=by simp;omega
  have k2:s'.toNat-1<(g.terms.tail.map (·.1)).length:=by simp;omega
  have g1:(g.terms.tail.map (·.1))[s.toNat-1]=nameOf g s:=by
   unfold nameOf
   have:s.toNat<g.terms.length:=by omega
   simp[this]
   congr 2;omega
  have g2:(g.terms.tail.map (·.1))[s'.toNat-1]=nameOf g s':=by
   unfold nameOf
   have:s'.toNat<g.terms.length:=by omega
   simp[this]
   congr 2;omega
  have:=Zru nd k1 k2 (by rw[g1,g2,e])
  omega
 ·have ht':¬s'<g.terms.length:=fun h=>ht (hc.1 (ec.symm ▸ hc'.2 h))
  rw[(v.non (by omega) h0.2).1,(v.non (by omega) h0'.2).1]at e
  have e:=Zve e
  have nd:=v.syms.nnd
  rw[List.drop_zero]at nd
  have b1:=h0.2
  have b2:=h0'.2
  have k1:(s-g.terms.length).toNat<g.nons.length:=by omega
  have k2:(s'-g.terms.length).toNat<g.nons.length:=by omega
  have g1:g.nons[(s-g.terms.length).toNat]=Zb0 g s:=by unfold Zb0;rw[List.getD_eq_getElem?_getD,List.getElem?_eq_getElem k1];rfl
  have g2:g.nons[(s'-g.terms.length).toNat]=Zb0 g s':=by unfold Zb0;rw[List.getD_eq_getElem?_getD,List.getElem?_eq_getElem k2];rfl
  have:=Zru nd k1 k2 (by rw[g1,g2,e])
  omega
end Go.Px.Scan
namespace Go.Px.Scan
open Go.Px
variable {g h:Gr}
theorem Zbh.bound (v:Zbh g):Zie g:=Zit (Or.inl v)
theorem Zel {f:Int→Bool}{s:Int}:s∈Za3 g f↔1≤s∧s<g.terms.length∧f (Zci g s)=true:=by
 unfold Za3 Zd8
 rw[List.mem_map]
 constructor
 ·rintro ⟨i,hi,rfl⟩
  rw[List.mem_filter,List.mem_range]at hi
  exact ⟨by omega,by omega,hi.2⟩
 ·rintro ⟨h1,h2,h3⟩
  refine ⟨s.toNat-1,?_,by omega⟩
  rw[List.mem_filter,List.mem_range]
  refine ⟨by omega,?_⟩
  have:((s.toNat-1:Nat):Int)+1=s:=by omega
  rw[this];exact h3
theorem Zbh.first (v:Zbh g){x:Int}(h1:1≤x)(h2:x≤g.levels.length):∃s,(Za3 g fun y=>y == x).headD 0=s∧1≤s∧s<g.terms.length∧Zci g s=x:=by
 obtain ⟨t,ht,e⟩:=v.bound.has (x.toNat-1) (by omega)
 obtain ⟨i,hi,rfl⟩:=List.mem_iff_getElem.1 ht
 rw[List.length_tail]at hi
 rw[List.getElem_tail]at e
 have hm:((i:Int)+1)∈Za3 g fun y=>y == x:=Zel.2 ⟨by omega,by omega,by
  have hl:=Zhm (g:=g) (k:=i+1) (by omega)
  push_cast at hl
  rw[hl,e]
  simp;omega⟩
 cases hl:Za3 g fun y=>y == x with
 | nil=>rw[hl]at hm;cases hm
 | cons s r=>
  obtain ⟨a,b,c⟩:=Zel.1 (show s∈Za3 g fun y=>y == x by rw[hl];simp)
  exact ⟨s,rfl,a,b,by simpa using c⟩
theorem Zbh.no_start (v:Zbh g):∀p∈g.prods,symT g p.1≠Zko:=fun p hp e=>by
 have hb:=v.bound
 have:=hb.left p hp;have:=hb.t0
 obtain ⟨_,c,r,e1,_,n2,_⟩:=v.word (hb.left p hp).1 (by omega)
 rw[e1]at e
 injection e with e
 exact n2 e
end Go.Px.Scan
