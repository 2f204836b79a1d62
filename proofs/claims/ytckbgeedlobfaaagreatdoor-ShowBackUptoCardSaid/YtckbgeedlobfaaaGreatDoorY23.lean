/-
  Texts of this claim: Bk1, Bk2, Bk3, Bk4, Bz1, LbW, GwZ, RwBack.
-/
import Derived.Test.YtckbgeedlobfaaaGreatDoorY22
import Derived.Test.YtckbgeedlobfaaaGreatDoorY19
import Derived.Test.YtckbgeedlobfaaaGreatDoorY20
import Derived.Test.YtckbgeedlobfaaaGreatDoorY21
import Derived.Test.YtckbgeedlobfaaaGreatDoorY11
import Derived.Test.YtckbgeedlobfaaaGreatDoorY03
import Derived.Test.YtckbgeedlobfaaaGreatDoorCards
import Derived.Test.YtckbgeedlobfaaaGreatDoorTie
import Derived.WalkKit
import Derived.ProofKit
import Derived.OpenShut
import Derived.Deep.DeepHandedRow
import Derived.Lib.LaidTab
import Derived.Deep.DeepWitnessRowRef
import Derived.Test.YtckbgeedlobfaaaGreatDoorY12
set_option maxHeartbeats 1000000
set_option linter.unusedSimpArgs false
set_option linter.unusedVariables false
set_option maxRecDepth 100000
namespace Go.Px.Spec
open Go.Px Go.Px.Scan
def pT (l:List (ByteArray×Wd)):ByteArray:=l.foldl (fun T p=>T++p.1++wr p.2) ⟨#[]⟩
theorem Zyl (l:List (ByteArray×Wd))(p:ByteArray×Wd):pT (l++[p])=pT l++p.1++wr p.2:=by simp[pT]
def bT (l:List (ByteArray×Wd)):Txt:=l.flatMap fun p=>tx p.1++tx (wr p.2)
theorem Zs1 (a b:ByteArray):tx (a++b)=tx a++tx b:=by simp[tx]
theorem pT_tx (l:List (ByteArray×Wd)):tx (pT l)=bT l:=by
 rcases List.eq_nil_or_concat l with e|⟨a,p,e⟩
 ·subst e;rfl
 ·have e':l=a++[p]:=by simpa using e
  subst e'
  have hlen:a.length<(a++[p]).length:=by simp
  rw[Zyl,Zs1,Zs1,pT_tx a]
  simp[bT]
termination_by l.length
def Zy4 (G:ByteArray):Prop:=G=⟨#[32]⟩∨G=⟨#[10]⟩
end Go.Px.Spec
namespace Go.Proofs.YtckbgeedlobfaaaGreatDoor
open Go.Px Go.Px.Scan Go.Px.Spec Go.RowKit
theorem Zrd (w0:Wd)(l:List (ByteArray×Wd)):WP w0→(∀p∈l,Zy4 p.1∧WP p.2)→∃W,Zs2 (pT ((⟨#[]⟩,w0)::l)) W∧W.map erW=erW w0::l.map fun p=>erW p.2:=by
 intro h0 hl
 rcases List.eq_nil_or_concat l with e|⟨a,p,e⟩
 ·subst e
  obtain ⟨kd,k1,k2,_⟩:=ZZ172 h0
  refine ⟨_,Zmz (G:=⟨#[]⟩) Zxq k2 (by decide) (.inl ⟨rfl,rfl⟩),?_⟩
  rw[←k1];rfl
 ·have e':l=a++[p]:=by simpa using e
  subst e'
  have hlen:a.length<(a++[p]).length:=by simp
  obtain ⟨W,h1,h2⟩:=Zrd w0 a h0 fun x hx=>hl x (by simp[hx])
  obtain ⟨hg,hp⟩:=hl p (by simp)
  obtain ⟨kd,k1,k2,_⟩:=ZZ172 hp
  have hG:Zjj (Zks p.1) false=some false∧(Zpz p.1∧0<p.1.size):=by
   rcases hg with e|e<;>rw[e]
   ·exact ⟨by decide,.inr (.inl (by decide)),by decide⟩
   ·exact ⟨by decide,.inr (.inl (by decide)),by decide⟩
  have:=Zmz h1 k2 hG.1 (.inr hG.2)
  rw[←List.cons_append,Zyl]
  refine ⟨_,this,?_⟩
  rw[List.map_append,h2,←k1];simp[erW]
termination_by l.length
theorem pT_words {w0:Wd}{l:List (ByteArray×Wd)}(h0:WP w0)(hl:∀p∈l,Zy4 p.1∧WP p.2){T:ByteArray}(hT:tx T=bT ((⟨#[]⟩,w0)::l)++[10])(hs:T.size≤8192) :
  ∃l',Zah T=(l',none)∧l'.map erW=erW w0::l.map fun p=>erW p.2:=by
 obtain ⟨W,h1,h2⟩:=Zrd w0 l h0 hl
 refine ⟨W,?_,h2⟩
 have e:T=pT ((⟨#[]⟩,w0)::l)++(⟨#[10]⟩:ByteArray):=by
  apply Zve
  rw[hT,Zs1,pT_tx];rfl
 rw[Zto (by omega),e]
 exact Zxc (cm:=false) h1 (.inr (.inl (by decide))) (by decide)
end Go.Proofs.YtckbgeedlobfaaaGreatDoor
namespace Go.Px.Spec
open Go.Px Go.Px.Scan
structure LineW (ln:Txt×List Txt)(w0:Wd)(ws:List Wd):Prop where
 fst:tx (wr w0)=ln.1
 rest:ws.map (fun w=>tx (wr w))=ln.2
 wp0:WP w0
 wp:∀w∈ws,WP w
def lnP (G:ByteArray):List (Wd×List Wd)→List (ByteArray×Wd)
 | []=>[]
 | (w0,ws)::l=>(G,w0)::(ws.map fun w=>((⟨#[32]⟩:ByteArray),w))++lnP ⟨#[10]⟩ l
def lnW (l:List (Wd×List Wd)):List Wd:=l.flatMap fun x=>x.1::x.2
inductive LinesW:List (Txt×List Txt)→List (Wd×List Wd)→Prop
 | nil:LinesW [] []
 | cons {ln:Txt×List Txt} {w0:Wd} {ws:List Wd} {a:List (Txt×List Txt)} {b:List (Wd×List Wd)}:LineW ln w0 ws→LinesW a b→LinesW (ln::a) ((w0,ws)::b)
theorem LinesW.app {a:List (Txt×List Txt)}{b:List (Wd×List Wd)}(h:LinesW a b){a':List (Txt×List Txt)}{b':List (Wd×List Wd)}(h':LinesW a' b'):LinesW (a++a') (b++b'):=by
 induction h with
 | nil=>exact h'
 | cons h _ ih=>exact .cons h ih
theorem LinesW.map {α:Type}{f:α→Txt×List Txt}{u:α→Wd×List Wd}{l:List α}(h:∀x∈l,LineW (f x) (u x).1 (u x).2):LinesW (l.map f) (l.map u):=by
 induction l with
 | nil=>exact .nil
 | cons x l ih=>exact .cons (h x (by simp)) (ih fun y hy=>h y (by simp[hy]))
theorem Zui (ws:List Wd):bT (ws.map fun w=>((⟨#[32]⟩:ByteArray),w))=Zbk (ws.map fun w=>tx (wr w)):=by
 unfold bT Zbk
 rw[List.flatMap_map,List.flatMap_map];rfl
theorem Zud {a:List (Txt×List Txt)}{b:List (Wd×List Wd)}(h:LinesW a b):a≠[]→∀G:ByteArray,tx G++a.flatMap Zje=bT (lnP G b)++[10]:=by
 induction h with
 | nil=>exact fun h=>absurd rfl h
 | @cons ln w0 ws a b h1 h2 ih=>
  intro _ G
  have e:bT (lnP G ((w0,ws)::b))=tx G++ln.1++Zbk ln.2++bT (lnP ⟨#[10]⟩ b):=by
   show bT ((G,w0)::(ws.map fun w=>((⟨#[32]⟩:ByteArray),w))++lnP ⟨#[10]⟩ b)=_
   have e1:∀a b,bT (a++b)=bT a++bT b:=fun a b=>by simp[bT]
   rw[e1,show (G,w0)::(ws.map fun w=>((⟨#[32]⟩:ByteArray),w))=[(G,w0)]++ws.map (fun w=>((⟨#[32]⟩:ByteArray),w)) from rfl,e1,Zui,h1.rest,←h1.fst]
   simp[bT]
  rw[e,List.flatMap_cons]
  cases h2 with
  | nil=>simp[Zje,lnP,bT]
  | cons h3 h4=>
   have:=ih (by simp) ⟨#[10]⟩
   rw[List.append_assoc (tx G++ln.1++Zbk ln.2),←this]
   simp[Zje]
   rfl
theorem ZZ263 {b:List (Wd×List Wd)}:∀{G:ByteArray},Zy4 G→∀p∈lnP G b,Zy4 p.1:=by
 induction b with
 | nil=>intro G _ p hp;cases hp
 | cons x b ih=>
  obtain ⟨w0,ws⟩:=x
  intro G hG p hp
  have hp:p∈(G,w0)::(ws.map fun w=>((⟨#[32]⟩:ByteArray),w))++lnP ⟨#[10]⟩ b:=hp
  rcases List.mem_append.1 hp with hp|hp
  ·rcases List.mem_cons.1 hp with rfl|hp
   ·exact hG
   ·obtain ⟨w,_,rfl⟩:=List.mem_map.1 hp;exact .inl rfl
  ·exact ih (.inr rfl) p hp
theorem Zs4 (b:List (Wd×List Wd)):∀G:ByteArray,(lnP G b).map (·.2)=lnW b:=by
 induction b with
 | nil=>exact fun _=>rfl
 | cons x b ih=>
  obtain ⟨w0,ws⟩:=x
  intro G
  show ((G,w0)::(ws.map fun w=>((⟨#[32]⟩:ByteArray),w))++lnP ⟨#[10]⟩ b).map (·.2)=_
  rw[List.map_append,ih]
  simp[lnW,Function.comp_def]
theorem LinesW.wp {a:List (Txt×List Txt)}{b:List (Wd×List Wd)}(h:LinesW a b):∀w∈lnW b,WP w:=by
 induction h with
 | nil=>intro w hw;cases hw
 | @cons ln w0 ws a b h1 _ ih=>
  intro w hw
  have hw:w∈(w0::ws)++lnW b:=by simpa[lnW]using hw
  rcases List.mem_append.1 hw with hw|hw
  ·rcases List.mem_cons.1 hw with rfl|hw
   ·exact h1.wp0
   ·exact h1.wp w hw
  ·exact ih w hw
theorem Zue {a:List (Txt×List Txt)}{b:List (Wd×List Wd)}(h:LinesW a b)(hne:a≠[]){T:ByteArray}(hT:tx T=a.flatMap Zje)(hs:T.size≤8192):∃l',Zah T=(l',none)∧l'.map erW=(lnW b).map erW:=by
 have hb:=Zud h hne ⟨#[]⟩
 have hw:=h.wp
 cases h with
 | nil=>exact absurd rfl hne
 | @cons ln w0 ws a b h1 h2=>
  have e:lnP ⟨#[]⟩ ((w0,ws)::b)=(⟨#[]⟩,w0)::((ws.map fun w=>((⟨#[32]⟩:ByteArray),w))++lnP ⟨#[10]⟩ b):=rfl
  rw[e]at hb
  have hl:∀p∈(ws.map fun w=>((⟨#[32]⟩:ByteArray),w))++lnP ⟨#[10]⟩ b,Zy4 p.1∧WP p.2:=fun p hp=>by
   refine ⟨?_,?_⟩
   ·rcases List.mem_append.1 hp with hp|hp
    ·obtain ⟨w,_,rfl⟩:=List.mem_map.1 hp;exact .inl rfl
    ·exact ZZ263 (.inr rfl) p hp
   ·refine hw p.2 ?_
    rcases List.mem_append.1 hp with hp|hp
    ·obtain ⟨w,hw,rfl⟩:=List.mem_map.1 hp;simp[lnW,hw]
    ·have:p.2∈(lnP ⟨#[10]⟩ b).map (·.2):=List.mem_map.2 ⟨p,hp,rfl⟩
     rw[Zs4]at this
     unfold lnW at this ⊢
     rw[List.flatMap_cons]
     exact List.mem_append_right _ this
  obtain ⟨l',e1,e2⟩:=Go.Proofs.YtckbgeedlobfaaaGreatDoor.pT_words h1.wp0 hl (T:=T) (by rw[hT];exact hb) hs
  refine ⟨l',e1,?_⟩
  rw[e2]
  have e3:((ws.map fun w=>((⟨#[32]⟩:ByteArray),w))++lnP ⟨#[10]⟩ b).map (fun p=>erW p.2)=(((ws.map fun w=>((⟨#[32]⟩:ByteArray),w))++lnP ⟨#[10]⟩ b).map (·.2)).map erW:=by rw[List.map_map];rfl
  rw[e3,List.map_append,Zs4]
  simp[lnW,Function.comp_def]
end Go.Px.Spec
namespace Go.Px.Spec
open Go.Px Go.Px.Scan
def Zjz:Wd:=(4,Zge,0)
def ZZ1:Wd:=(4,Zpk,0)
def symW (g:Gr)(s:Int):Wd:=if s<g.terms.length then (2,nameOf g s,0) else (1,Zb0 g s,0)
def Zqg (x:Int):ByteArray:=if x=1 then Zs8 else if x=2 then Zn3 else kNon
def tokW (g:Gr):List (Wd×List Wd):=if 1<g.terms.length then [((3,Zg6,0),(Za3 g fun _=>true).map (symW g)++[Zjz])] else []
def levW (g:Gr)(i:Nat):Wd×List Wd:=((3,Zqg (g.levels.getD i 0),0),(Za3 g fun x=>x == (i:Int)+1).map (symW g)++[Zjz])
def ZZ334 (g:Gr):Wd×List Wd:=((3,Zh2,0),[symW g g.start,Zjz])
def Zjx (g:Gr)(p:Int×List Int×Int):List Wd :=
 if p.2.2=Zkj g p.2.1 then [] else if p.2.2=0 then [(3,Zns,0)] else [(3,Zk4,0),symW g ((Za3 g (fun x=>x == p.2.2)).headD 0)]
def Zoc (g:Gr)(p:Int×List Int×Int):Wd×List Wd:=(symW g p.1,ZZ1::(p.2.1.map (symW g)++(Zjx g p++[Zjz])))
def Zju (g:Gr):List (Wd×List Wd):=tokW g++((List.range g.levels.length).map (levW g)++ZZ334 g::g.prods.map (Zoc g))
variable {g:Gr}
theorem Znu (v:Zbh g){s:Int}(h0:Zf5 g s)(h1:1≤s):tx (wr (symW g s))=symT g s∧WP (symW g s):=by
 unfold symW
 by_cases ht:s<g.terms.length
 ·rw[if_pos ht]
  obtain ⟨e,hn⟩:=v.term h1 ht
  refine ⟨?_,by simp,fun _=>hn,by simp,by simp,by simp,hn.1⟩
  rw[e]
  show tx (quo (nameOf g s))=_
  unfold quo
  rw[Zs1,Zs1];rfl
 ·rw[if_neg ht]
  obtain ⟨e,hn⟩:=v.non (by omega) h0.2
  exact ⟨by rw[e];rfl,fun _=>hn,by simp,by simp,by simp,by simp,hn.1⟩
theorem Ztk (v:Zbh g){l:List Int}(h:∀s∈l,Zf5 g s∧1≤s):(l.map (symW g)).map (fun w=>tx (wr w))=l.map (symT g)∧∀w∈l.map (symW g),WP w:=by
 refine ⟨?_,fun w hw=>?_⟩
 ·rw[List.map_map]
  exact List.map_congr_left fun s hs=>(Znu v (h s hs).1 (h s hs).2).1
 ·obtain ⟨s,hs,rfl⟩:=List.mem_map.1 hw
  exact (Znu v (h s hs).1 (h s hs).2).2
theorem Zpg {f:Int→Bool}:∀s∈Za3 g f,Zf5 g s∧1≤s:=fun s hs=>⟨Zlm hs,(Zi6 hs).1⟩
theorem Zul {a:List Wd}{b:List Txt}(h:a.map (fun w=>tx (wr w))=b∧∀w∈a,WP w):(a++[Zjz]).map (fun w=>tx (wr w))=b++[Zov]∧∀w∈a++[Zjz],WP w:=by
 refine ⟨by rw[List.map_append,h.1];rfl,fun w hw=>?_⟩
 rcases List.mem_append.1 hw with hw|hw
 ·exact h.2 w hw
 ·rw[List.mem_singleton.1 hw];exact Zys
theorem ZZ248 (x:Int):tx (Zqg x)=Zl3 x∧WP (3,Zqg x,0):=by
 unfold Zqg Zl3
 split
 ·exact ⟨rfl,Zup (by decide +kernel)⟩
 ·split
  ·exact ⟨rfl,Zup (by decide +kernel)⟩
  ·exact ⟨rfl,Zup (by decide +kernel)⟩
theorem ZZ126 (v:Zbh g){p:Int×List Int×Int}(hp:p∈g.prods):(Zjx g p).map (fun w=>tx (wr w))=Zms g p∧∀w∈Zjx g p,WP w:=by
 unfold Zjx Zms
 split
 ·exact ⟨rfl,by simp⟩
 ·split
  ·exact ⟨rfl,fun w hw=>by rw[List.mem_singleton.1 hw];exact Zup (by decide +kernel)⟩
  ·rename_i h1 h2
   have hl:=v.bound.plev p hp
   obtain ⟨s,e,a,b,c⟩:=v.first (x:=p.2.2) (by omega) hl.2
   rw[e]
   have:=Znu v (s:=s) ⟨by omega,by omega⟩ a
   refine ⟨by simp only[List.map_cons,List.map_nil,this.1];rfl,fun w hw=>?_⟩
   rcases List.mem_cons.1 hw with rfl|hw
   ·exact Zup (by decide +kernel)
   ·rw[List.mem_singleton.1 hw];exact this.2
theorem Zzv (v:Zbh g):LinesW (Zsh g) (Zju g):=by
 have hb:=v.bound
 refine LinesW.app ?_ (LinesW.app (LinesW.map fun i _=>?_) (.cons ?_ (LinesW.map fun p hp=>?_)))
 ·unfold tokL tokW
  split
  ·have:=Zul (Ztk v (l:=Za3 g fun _=>true) Zpg)
   exact .cons ⟨rfl,this.1,Zup (by decide +kernel),this.2⟩ .nil
  ·exact .nil
 ·have:=Zul (Ztk v (l:=Za3 g fun x=>x == (i:Int)+1) Zpg)
  have hs:=ZZ248 (g.levels.getD i 0)
  exact ⟨hs.1,this.1,hs.2,this.2⟩
 ·have ht:=hb.t0
  have:=Znu v hb.start.1 (by have:=hb.start.2;omega)
  refine ⟨rfl,by simp only[List.map_cons,List.map_nil,this.1];rfl,Zup (by decide +kernel),fun w hw=>?_⟩
  rcases List.mem_cons.1 hw with rfl|hw
  ·exact this.2
  ·rw[List.mem_singleton.1 hw];exact Zys
 ·have ht:=hb.t0
  have hl:=Znu v (hb.left p hp).1 (by have:=(hb.left p hp).2;omega)
  have hr:=Ztk v (l:=p.2.1) (hb.right p hp)
  have hg:=Zul (ZZ126 v hp)
  refine ⟨hl.1,?_,hl.2,fun w hw=>?_⟩
  ·show (ZZ1::(p.2.1.map (symW g)++(Zjx g p++[Zjz]))).map _=[58]::(p.2.1.map (symT g)++(Zms g p++[Zov]))
   rw[List.map_cons,List.map_append,hr.1,hg.1];rfl
  ·rcases List.mem_cons.1 hw with rfl|hw
   ·exact ZZ138
   ·rcases List.mem_append.1 hw with hw|hw
    ·exact hr.2 w hw
    ·exact hg.2 w hw
theorem ZZ224 {d:Nat}{st:ByteArray}(hs:List (Nat×List ByteArray))(ts:List ByteArray):∀(done:List ByteArray) (ph:Nat) (l:List Wd),ph=1∨ph=2→1≤d→(done++ts).Nodup→(∀t∈ts,kn hs t≠2) →
  goM ⟨ph,hs++[(d,done)],st,noT,[],[]⟩ ((ts.map fun t=>((2:Int),t,(0:Int)))++l)=goM ⟨if ts=[] then ph else 2,hs++[(d,done++ts)],st,noT,[],[]⟩ l:=by
 induction ts with
 | nil=>intro done ph l _ _ _ _;simp
 | cons t ts ih=>
  intro done ph l hp h1 hd hk
  have hn:t∉done:=fun h=>(List.nodup_append.1 hd).2.2 t h t (by simp) rfl
  have hkn:kn (hs++[(d,done)]) t≠2:=by
   unfold kn
   rw[List.foldl_append]
   show (if hasB done t then min d 1+1 else kn hs t)≠2
   rw[if_neg fun h=>hn (Zae.1 h)]
   exact hk t (by simp)
  have hl:decL (hs++[(d,done)]) t=some .list:=by
   unfold decL;rw[Zxy,if_neg]
   rintro (h|⟨h,_⟩)
   ·exact hkn h
   ·have h:d=0:=h;omega
  have hst:Zbv ⟨ph,hs++[(d,done)],st,noT,[],[]⟩ (2,t,0)=some ⟨2,hs++[(d,done++[t])],st,noT,[],[]⟩:=by
   rw[Zdd]
   have:dec ph (hs++[(d,done)]) st (2,t,0)=some .list:=by
    rcases hp with rfl|rfl
    ·show (if isTB (2,t,0) then decL (hs++[(d,done)]) t else none)=_
     rw[hl];rfl
    ·show (if isTB (2,t,0) then decL (hs++[(d,done)]) t else if isSg (2,t,0) Zge then some .semi0 else none)=_
     rw[hl];rfl
   rw[this]
   show some (Mc.mk 2 (Zx (hs++[(d,done)]) _) _ _ _ _)=_
   rw[Zb8]
  rw[List.map_cons,List.cons_append,Zcc hst,ih (done++[t]) 2 l (.inr rfl) h1 (by simpa using hd) fun x hx=>hk x (by simp[hx])]
  have e:(if ts=[] then 2 else 2)=2:=by split<;>rfl
  rw[e,if_neg (by simp),List.append_assoc];rfl
theorem ZZ370 {x:Int}(hx:1≤x∧x≤3){ts:List ByteArray}(hne:ts≠[])(hd:ts.Nodup){hs:List (Nat×List ByteArray)}(hk:∀t∈ts,kn hs t≠2)(l:List Wd) :
  goM ⟨0,hs,noT,noT,[],[]⟩ ((3,Zqg x,0)::((ts.map fun t=>((2:Int),t,(0:Int)))++[Zjz])++l)=goM ⟨0,hs++[(x.toNat,ts)],noT,noT,[],[]⟩ l:=by
 have hsd:Zfs (Zqg x)=some x.toNat:=by
  have:x=1∨x=2∨x=3:=by omega
  rcases this with rfl|rfl|rfl<;>decide
 have h1:Zbv ⟨0,hs,noT,noT,[],[]⟩ (3,Zqg x,0)=some ⟨1,hs++[(x.toNat,[])],noT,noT,[],[]⟩:=by
  rw[Zdd]
  show (decH noT (3,Zqg x,0)).map _=_
  unfold decH
  simp only[hsd];rfl
 rw[List.cons_append,Zcc h1,List.append_assoc,ZZ224 hs ts [] 1 _ (.inl rfl) (by omega) (by simpa using hd) hk,if_neg hne,List.nil_append,List.singleton_append]
 rw[Zcc (m':=⟨0,hs++[(x.toNat,ts)],noT,noT,[],[]⟩) (by rw[Zdd];rfl)]
theorem ZZ305 (ws:List Wd):∀{m:Mc} {done:List RowS} {r:RowS} (l:List Wd),m.ph=6→m.rows=done++[r]→(∀w∈ws,isTB w=true) →
  goM m (ws++l)=goM {m with rows:=done++[{r with words:=r.words++ws }] } l:=by
 induction ws with
 | nil=>intro m done r l _ hr _;simp;rw[←hr]
 | cons w ws ih=>
  intro m done r l hp hr hT
  have hw:=hT w (by simp)
  have h1:Zbv m w=some {m with rows:=done++[{r with words:=r.words++[w] }] }:=by
   have:dec m.ph m.heads m.start w=some .word:=by
    rw[hp]
    show decW 6 w=_
    unfold decW
    rw[sg_T hw,sg_T hw,hw];simp
   rw[Zdd,this]
   show some {m with rows:=Zx m.rows _ }=_
   rw[hr,Zb8]
  rw[List.cons_append,Zcc h1,ih (m:={m with rows:=done++[{r with words:=r.words++[w] }] }) (done:=done) (r:={r with words:=r.words++[w] }) l hp rfl fun x hx=>hT x (by simp[hx])]
  simp
def Zis (g:Gr)(p:Int×List Int×Int):Nat×ByteArray:=if p.2.2=Zkj g p.2.1 then (0,noT) else if p.2.2=0 then (2,noT) else (1,nameOf g ((Za3 g (fun x=>x == p.2.2)).headD 0))
def rowG (g:Gr)(p:Int×List Int×Int):RowS:=⟨Zb0 g p.1,p.2.1.map (symW g),(Zis g p).1,(Zis g p).2⟩
theorem ZZ355 {s:Int}:isTB (symW g s)=true:=by unfold symW;split<;>rfl
theorem Zp2 {s:Int}(h:(g.terms.length:Int)≤s):symW g s=(1,Zb0 g s,0):=by unfold symW;rw[if_neg (by omega)]
theorem ZZ234 (v:Zbh g){p:Int×List Int×Int}(hp:p∈g.prods){m:Mc}(hm:m.ph=0∨m.ph=9)(l:List Wd) :
  goM m ((Zoc g p).1::(Zoc g p).2++l)=goM {m with ph:=9,rule:=Zb0 g p.1,lefts:=m.lefts++[Zb0 g p.1],rows:=m.rows++[rowG g p] } l:=by
 have hl:=v.bound.left p hp
 have h1:Zbv m (symW g p.1)=some {m with ph:=5,rule:=Zb0 g p.1,lefts:=m.lefts++[Zb0 g p.1] }:=by
  rw[Zp2 hl.2,Zdd]
  rcases hm with h|h<;>rw[h]<;>rfl
 show goM m (symW g p.1::(ZZ1::(p.2.1.map (symW g)++(Zjx g p++[Zjz])))++l)=_
 rw[List.cons_append,Zcc h1,List.cons_append,List.append_assoc]
 rw[Zcc (m':={m with ph:=6,rule:=Zb0 g p.1,lefts:=m.lefts++[Zb0 g p.1],rows:=m.rows++[⟨Zb0 g p.1,[],0,noT⟩] }) (by rw[Zdd];rfl)]
 rw[ZZ305 (p.2.1.map (symW g)) (done:=m.rows) (r:=⟨Zb0 g p.1,[],0,noT⟩) _ rfl rfl fun w hw=>by obtain ⟨s,_,rfl⟩:=List.mem_map.1 hw;exact ZZ355]
 rw[List.nil_append]
 unfold rowG Zis Zjx
 by_cases e1:p.2.2=Zkj g p.2.1
 ·simp only[if_pos e1]
  rw[List.nil_append,List.singleton_append,Zcc (m':=_) (by rw[Zdd];rfl)];rfl
 ·simp only[if_neg e1]
  by_cases e2:p.2.2=0
  ·simp only[if_pos e2]
   rw[List.append_assoc,List.singleton_append,List.singleton_append]
   have hs:Zbv {m with ph:=6,rule:=Zb0 g p.1,lefts:=m.lefts++[Zb0 g p.1],rows:=m.rows++[⟨Zb0 g p.1,p.2.1.map (symW g),0,noT⟩] } (3,Zns,0)=some {m with ph:=8,rule:=Zb0 g p.1,lefts:=m.lefts++[Zb0 g p.1],rows:=m.rows++[⟨Zb0 g p.1,p.2.1.map (symW g),2,noT⟩] }:=by
    rw[Zdd]
    show some {m with ph:=8,rule:=_,lefts:=_,rows:=Zx (m.rows++[_]) _ }=_
    rw[Zb8]
   rw[Zcc hs,Zcc (m':=_) (by rw[Zdd];rfl)];rfl
  ·simp only[if_neg e2]
   have hl:=v.bound.plev p hp
   obtain ⟨s,e,a,b,c⟩:=v.first (x:=p.2.2) (by omega) hl.2
   rw[e]
   rw[show ([(3,Zk4,0),symW g s]++[Zjz]:List Wd)++l=(3,Zk4,0)::symW g s::Zjz::l from rfl]
   have hs:Zbv {m with ph:=6,rule:=Zb0 g p.1,lefts:=m.lefts++[Zb0 g p.1],rows:=m.rows++[⟨Zb0 g p.1,p.2.1.map (symW g),0,noT⟩] } (3,Zk4,0)=some {m with ph:=7,rule:=Zb0 g p.1,lefts:=m.lefts++[Zb0 g p.1],rows:=m.rows++[⟨Zb0 g p.1,p.2.1.map (symW g),1,noT⟩] }:=by
    rw[Zdd]
    show some {m with ph:=7,rule:=_,lefts:=_,rows:=Zx (m.rows++[_]) _ }=_
    rw[Zb8]
   have hsw:symW g s=(2,nameOf g s,0):=by unfold symW;rw[if_pos b]
   have hs2:Zbv {m with ph:=7,rule:=Zb0 g p.1,lefts:=m.lefts++[Zb0 g p.1],rows:=m.rows++[⟨Zb0 g p.1,p.2.1.map (symW g),1,noT⟩] } (symW g s)=some {m with ph:=8,rule:=Zb0 g p.1,lefts:=m.lefts++[Zb0 g p.1],rows:=m.rows++[⟨Zb0 g p.1,p.2.1.map (symW g),1,nameOf g s⟩] }:=by
    rw[Zdd,hsw]
    show some {m with ph:=8,rule:=_,lefts:=_,rows:=Zx (m.rows++[_]) _ }=_
    rw[Zb8]
   rw[Zcc hs,Zcc hs2,Zcc (m':=_) (by rw[Zdd];rfl)];rfl
theorem ZZ91 (v:Zbh g)(ps:List (Int×List Int×Int)):∀{m:Mc},(∀p∈ps,p∈g.prods)→(m.ph=0∨m.ph=9)→ps≠[] →
  ∃rl,goM m (lnW (ps.map (Zoc g)))=({m with ph:=9,rule:=rl,lefts:=m.lefts++ps.map (fun p=>Zb0 g p.1),rows:=m.rows++ps.map (rowG g) },[]):=by
 induction ps with
 | nil=>intro m _ _ h;exact absurd rfl h
 | cons p ps ih=>
  intro m hps hm _
  have e:lnW ((p::ps).map (Zoc g))=(Zoc g p).1::(Zoc g p).2++lnW (ps.map (Zoc g)):=rfl
  rw[e,ZZ234 v (hps p (by simp)) hm]
  cases ps with
  | nil=>exact ⟨Zb0 g p.1,rfl⟩
  | cons q qs=>
   obtain ⟨rl,h⟩:=ih (m:={m with ph:=9,rule:=Zb0 g p.1,lefts:=m.lefts++[Zb0 g p.1],rows:=m.rows++[rowG g p] }) (fun x hx=>hps x (by simp[hx])) (.inr rfl) (by simp)
   refine ⟨rl,?_⟩
   rw[h];simp
end Go.Px.Spec
namespace Go.Px.Spec
open Go.Px Go.Px.Scan
variable {g:Gr}
def levN (g:Gr)(i:Nat):List ByteArray:=(Za3 g fun x=>x == (i:Int)+1).map (nameOf g)
def allN (g:Gr):List ByteArray:=(Za3 g fun _=>true).map (nameOf g)
def lvH (g:Gr)(i:Nat):Nat×List ByteArray:=((g.levels.getD i 0).toNat,levN g i)
def Zfg (g:Gr)(k:Nat):List (Nat×List ByteArray):=(if 1<g.terms.length then [(0,allN g)] else [])++(List.range k).map (lvH g)
theorem Zjb (h:(i:Nat)→i<g.terms.length→True){s:Int}(h0:0≤s)(h1:s<g.terms.length):∃hk:s.toNat<g.terms.length,nameOf g s=(g.terms[s.toNat]'hk).1∧Zci g s=(g.terms[s.toNat]'hk).2:=by
 have hk:s.toNat<g.terms.length:=by omega
 refine ⟨hk,?_,?_⟩
 ·unfold nameOf;simp[hk]
 ·unfold Zci;simp[hk]
theorem Zqh (v:Zbh g){s s':Int}(h1:1≤s)(h2:s<g.terms.length)(h1':1≤s')(h2':s'<g.terms.length)(e:nameOf g s=nameOf g s'):s=s':=by
 have hn:=v.bound.n0
 exact v.inj ⟨by omega,by omega⟩ h1 ⟨by omega,by omega⟩ h1' (by rw[(v.term h1 h2).1,(v.term h1' h2').1,e])
theorem Zj0 (v:Zbh g)(f:Int→Bool):((Za3 g f).map (nameOf g)).Nodup:=by
 have hn:(Za3 g f).Nodup:=by
  unfold Za3 Zd8
  rw[List.Nodup,List.pairwise_map]
  exact (List.nodup_range.filter _).imp fun h e=>h (by omega)
 rw[List.Nodup,List.pairwise_map]
 refine hn.imp_of_mem fun {a b} ha hb h e=>h ?_
 have h1:=Zel.1 ha
 have h2:=Zel.1 hb
 exact Zqh v h1.1 h1.2.1 h2.1 h2.2.1 e
theorem Zgv {f:Int→Bool}{t:ByteArray}:t∈(Za3 g f).map (nameOf g)↔∃s:Int,1≤s∧s<(g.terms.length:Int)∧f (Zci g s)=true∧nameOf g s=t:=by
 rw[List.mem_map]
 constructor
 ·rintro ⟨s,hs,e⟩;have:=Zel.1 hs;exact ⟨s,this.1,this.2.1,this.2.2,e⟩
 ·rintro ⟨s,h1,h2,h3,e⟩;exact ⟨s,Zel.2 ⟨h1,h2,h3⟩,e⟩
theorem Zpb {f:Int→Bool}:(Za3 g f).map (symW g)=((Za3 g f).map (nameOf g)).map fun t=>((2:Int),t,(0:Int)):=by
 rw[List.map_map]
 refine List.map_congr_left fun s hs=>?_
 have:=Zel.1 hs
 unfold symW;rw[if_pos this.2.1];rfl
theorem ZZ313 (s:ByteArray)(hs:List (Nat×List ByteArray)):∀a:Nat,hs.foldl (fun a h=>if hasB h.2 s then min h.1 1+1 else a) a=2→a=2∨∃h∈hs,1≤h.1∧s∈h.2:=by
 induction hs with
 | nil=>exact fun a h=> .inl h
 | cons x hs ih=>
  intro a h
  rw[List.foldl_cons]at h
  rcases ih _ h with h|⟨y,hy,h⟩
  ·by_cases hb:hasB x.2 s=true
   ·rw[if_pos hb]at h
    exact .inr ⟨x,by simp,by omega,Zae.1 hb⟩
   ·rw[if_neg hb]at h;exact .inl h
  ·exact .inr ⟨y,by simp[hy],h⟩
theorem Zhe {i:Nat}{t:ByteArray}:t∈levN g i↔∃s:Int,1≤s∧s<(g.terms.length:Int)∧Zci g s=(i:Int)+1∧nameOf g s=t:=by
 unfold levN
 rw[Zgv]
 simp
theorem Znq (v:Zbh g){i:Nat}(hi:i<g.levels.length):1≤g.levels.getD i 0∧g.levels.getD i 0≤3:=by
 rw[List.getD_eq_getElem?_getD,List.getElem?_eq_getElem hi]
 exact v.bound.lev _ (List.getElem_mem hi)
theorem ZZ252 (v:Zbh g){i:Nat}(hi:i<g.levels.length):levN g i≠[]:=by
 obtain ⟨s,e,a,b,c⟩:=v.first (x:=(i:Int)+1) (by omega) (by omega)
 have:nameOf g s∈levN g i:=Zhe.2 ⟨s,a,b,c,rfl⟩
 exact List.ne_nil_of_mem this
theorem Zzz (v:Zbh g){i:Nat}{t:ByteArray}(ht:t∈levN g i):kn (Zfg g i) t≠2:=by
 intro h
 rcases ZZ313 t _ 0 h with h|⟨x,hx,h1,h2⟩
 ·cases h
 ·unfold Zfg at hx
  rcases List.mem_append.1 hx with hx|hx
  ·split at hx
   ·rw[List.mem_singleton.1 hx]at h1;have h1:1≤0:=h1;omega
   ·cases hx
  ·obtain ⟨j,hj,rfl⟩:=List.mem_map.1 hx
   rw[List.mem_range]at hj
   obtain ⟨s,a1,a2,a3,a4⟩:=Zhe.1 ht
   obtain ⟨s',b1,b2,b3,b4⟩:=Zhe.1 (show t∈levN g j from h2)
   have:=Zqh v a1 a2 b1 b2 (by rw[a4,b4])
   subst this
   rw[a3]at b3;omega
theorem Zqt (a b:List (Wd×List Wd)):lnW (a++b)=lnW a++lnW b:=by simp[lnW]
theorem ZZ48 (v:Zbh g)(l:List Wd):∀k,k≤g.levels.length→∀l:List Wd,goM m0 (lnW (tokW g++(List.range k).map (levW g))++l)=goM ⟨0,Zfg g k,noT,noT,[],[]⟩ l:=fun k=>by
 induction k with
 | zero=>
  intro _ l
  unfold tokW Zfg
  by_cases h:1<g.terms.length
  ·rw[if_pos h,if_pos h]
   have e:lnW ([((3,Zg6,0),(Za3 g fun _=>true).map (symW g)++[Zjz])]++(List.range 0).map (levW g))++l=hdT (allN g)++l:=by
    rw[Zpb];simp[lnW,hdT,allN,Zjz]
   have hne:allN g≠[]:=by
    have:nameOf g 1∈allN g:=Zgv.2 ⟨1,by omega,by omega,rfl,rfl⟩
    exact List.ne_nil_of_mem this
   rw[e]
   exact ZZ352 (st:=noT) hne (Zj0 v _)
  ·rw[if_neg h,if_neg h];rfl
 | succ k ih=>
  intro hk l
  have e:lnW (tokW g++(List.range (k+1)).map (levW g))++l=lnW (tokW g++(List.range k).map (levW g))++(((3,Zqg (g.levels.getD k 0),0)::(((levN g k).map fun t=>((2:Int),t,(0:Int)))++[Zjz]))++l):=by
   rw[List.range_succ,List.map_append,←List.append_assoc,Zqt,List.append_assoc]
   congr 1
   unfold levN
   rw[←Zpb]
   simp[lnW,levW]
  have hr:=Znq v (i:=k) (by omega)
  rw[e,ih (by omega),ZZ370 hr (ZZ252 v (by omega)) (Zj0 v _) fun t ht=>Zzz v ht]
  have e2:Zfg g (k+1)=Zfg g k++[((g.levels.getD k 0).toNat,levN g k)]:=by
   unfold Zfg;rw[List.range_succ];simp[lvH]
  rw[e2]
theorem Zs7 (v:Zbh g){a0:List (ByteArray×Int)}(hno:lvT a0 noT=some 0)(h0:∀s:Int,1≤s→s<(g.terms.length:Int)→lvT a0 (nameOf g s)=some 0):∀k,k≤g.levels.length →
  (((List.range k).map (lvH g)).foldl Zd1 (a0,[])).2=g.levels.take k∧lvT (((List.range k).map (lvH g)).foldl Zd1 (a0,[])).1 noT=some 0 ∧
  ∀s:Int,1≤s→s<(g.terms.length:Int)→lvT (((List.range k).map (lvH g)).foldl Zd1 (a0,[])).1 (nameOf g s)=some (if Zci g s≤k then Zci g s else 0):=fun k=>by
 have hb:=v.bound
 have hlo:∀s:Int,1≤s→s<(g.terms.length:Int)→0≤Zci g s:=fun s h1 h2=>by
  obtain ⟨hk,_,e⟩:=Zjb (fun _ _=>trivial) (by omega) h2
  rw[e];exact (hb.tlev _ (List.getElem_mem hk)).1
 induction k with
 | zero=>
  intro _
  refine ⟨rfl,hno,fun s h1 h2=>?_⟩
  have:=hlo s h1 h2
  rw[show (if Zci g s≤((0:Nat):Int) then Zci g s else 0)=0 by split<;>omega]
  exact h0 s h1 h2
 | succ k ih=>
  intro hk
  obtain ⟨e1,e2,e3⟩:=ih (by omega)
  rw[List.range_succ,List.map_append,List.foldl_append]
  generalize ((List.range k).map (lvH g)).foldl Zd1 (a0,[])=A at e1 e2 e3 ⊢
  have hr:=Znq v (i:=k) (by omega)
  have hd:0<(lvH g k).1:=by show 0<(g.levels.getD k 0).toNat;omega
  have hA:[lvH g k].foldl Zd1 A=((levN g k).foldl (fun ts t=>putT ts t (A.2++[((lvH g k).1:Int)]).length) A.1,A.2++[((lvH g k).1:Int)]):=by
   show Zd1 A (lvH g k)=_
   unfold Zd1
   simp only[if_pos hd];rfl
  have hlen:(A.2++[((lvH g k).1:Int)]).length=k+1:=by rw[List.length_append,e1,List.length_take];simp;omega
  have hlv:((lvH g k).1:Int)=g.levels.getD k 0:=by show ((g.levels.getD k 0).toNat:Int)=_;omega
  rw[List.map_singleton,hA]
  refine ⟨?_,?_,fun s h1 h2=>?_⟩
  ·show A.2++_=_
   rw[e1,hlv,List.take_succ_eq_append_getElem (by omega),List.getD_eq_getElem?_getD,List.getElem?_eq_getElem (by omega:k<g.levels.length)];rfl
  ·show lvT ((levN g k).foldl (fun ts t=>putT ts t (A.2++[((lvH g k).1:Int)]).length) A.1) noT=some 0
   rw[hlen,Zqz _ (by omega),if_neg,e2]
   intro hh
   obtain ⟨s,a1,a2,_,a4⟩:=Zhe.1 (Zae.1 hh)
   exact Zeu (v.term a1 a2).2.1 a4
  ·show lvT ((levN g k).foldl (fun ts t=>putT ts t (A.2++[((lvH g k).1:Int)]).length) A.1) (nameOf g s)=_
   rw[hlen,Zqz _ (by omega),e3 s h1 h2]
   by_cases hh:Zci g s=(k:Int)+1
   ·rw[if_pos (Zae.2 (Zhe.2 ⟨s,h1,h2,hh,rfl⟩)),if_pos (by omega),hh];simp
   ·rw[if_neg fun h=>by
     obtain ⟨s',a1,a2,a3,a4⟩:=Zhe.1 (Zae.1 h)
     have:=Zqh v a1 a2 h1 h2 a4
     subst this;exact hh a3]
    have:(Zci g s≤(k:Int))↔Zci g s≤((k+1:Nat):Int):=by omega
    simp only[this]
theorem Zjk (v:Zbh g):g.terms.map (·.1)=noT::allN g:=by
 have hb:=v.bound.t0
 refine List.ext_getElem? fun i=>?_
 cases i with
 | zero=>rw[v.t0];rfl
 | succ i=>
  have e:allN g=(List.range (g.terms.length-1)).map fun i:Nat=>nameOf g ((i:Int)+1):=by
   unfold allN Za3 Zd8
   rw[List.map_map]
   have:((List.range (g.terms.length-1)).filter fun i:Nat=>true)=List.range (g.terms.length-1):=List.filter_eq_self.2 fun _ _=>rfl
   rw[this];rfl
  rw[List.getElem?_cons_succ,e,List.getElem?_map,List.getElem?_map]
  by_cases hi:i<g.terms.length-1
  ·rw[List.getElem?_range hi,List.getElem?_eq_getElem (by omega:i+1<g.terms.length)]
   obtain ⟨hk,e1,_⟩:=Zjb (g:=g) (fun _ _=>trivial) (s:=(i:Int)+1) (by omega) (by omega)
   simp only[Option.map_some,e1]
   congr 3
  ·rw[List.getElem?_eq_none (by omega),List.getElem?_eq_none (by simp;omega)];rfl
theorem Zhy (v:Zbh g):(noT::allN g).Nodup:=by
 refine List.nodup_cons.2 ⟨fun h=>?_,Zj0 v _⟩
 obtain ⟨s,a1,a2,_,a4⟩:=Zgv.1 h
 exact Zeu (v.term a1 a2).2.1 a4
theorem Zp9 (v:Zbh g){s:Int}(h0:0≤s)(h1:s<g.terms.length):posN (g.terms.map (·.1)) (nameOf g s)=s.toNat:=by
 obtain ⟨hk,e,_⟩:=Zjb (g:=g) (fun _ _=>trivial) h0 h1
 have hn:(g.terms.map (·.1)).Nodup:=by rw[Zjk v];exact Zhy v
 have hl:s.toNat<(g.terms.map (·.1)).length:=by simpa using hk
 have:=pos_at hn hl
 rw[List.getElem_map]at this
 rw[e];exact this
theorem Zsy (v:Zbh g){s:Int}(h0:0≤s)(h1:s<g.terms.length):lvT g.terms (nameOf g s)=some (Zci g s):=by
 obtain ⟨hk,_,e⟩:=Zjb (g:=g) (fun _ _=>trivial) h0 h1
 unfold lvT
 rw[Zp9 v h0 h1,List.getElem?_eq_getElem hk,e];rfl
theorem Zz1 (v:Zbh g):tmOf (Zfg g g.levels.length)=g.terms∧lvOf (Zfg g g.levels.length)=g.levels:=by
 have ht0:=v.bound.t0
 obtain ⟨a0,hA,hN,hno,h0⟩:∃a0:List (ByteArray×Int),hAll (Zfg g g.levels.length)=((List.range g.levels.length).map (lvH g)).foldl Zd1 (a0,[])∧a0.map (·.1)=noT::allN g∧lvT a0 noT=some 0∧∀s:Int,1≤s→s<(g.terms.length:Int)→lvT a0 (nameOf g s)=some 0:=by
  by_cases h:1<g.terms.length
  ·refine ⟨(allN g).foldl (fun u t=>putT u t 0) [(noT,0)],?_,?_,?_,fun s h1 h2=>?_⟩
   ·unfold hAll Zfg
    rw[if_pos h,List.foldl_append];rfl
   ·rw[Zfd]
    have:∀(l a:List ByteArray),(a++l).Nodup→l.foldl addB a=a++l:=fun l=>by
     induction l with
     | nil=>intro a _;simp
     | cons x l ih=>
      intro a ha
      have hx:x∉a:=fun h=>by
       have:=List.nodup_append.1 ha
       exact this.2.2 x h x (by simp) rfl
      have e:addB a x=a++[x]:=by unfold addB;rw[if_neg fun h=>hx (Zae.1 h)]
      rw[List.foldl_cons,e,ih (a++[x]) (by simpa using ha)];simp
    exact this (allN g) [noT] (Zhy v)
   ·rw[Zki,if_neg fun h=>(List.nodup_cons.1 (Zhy v)).1 (Zae.1 h)];rfl
   ·have hm:nameOf g s∈allN g:=Zgv.2 ⟨s,h1,h2,rfl,rfl⟩
    rw[Zki,if_pos (Zae.2 hm),Zg9.2 fun h=>?_];rfl
    rw[List.map_singleton,List.mem_singleton]at h
    exact Zeu (v.term h1 h2).2.1 h
  ·refine ⟨[(noT,0)],?_,?_,rfl,fun s h1 h2=>by omega⟩
   ·unfold hAll Zfg
    rw[if_neg h,List.nil_append]
   ·have:allN g=[]:=by
     unfold allN Za3 Zd8
     rw[show g.terms.length-1=0 by omega];rfl
    rw[this];rfl
 obtain ⟨q1,q2,q3⟩:=Zs7 v hno h0 g.levels.length (Nat.le_refl _)
 unfold tmOf lvOf
 rw[hA]
 refine ⟨?_,by rw[q1,List.take_length]⟩
 have hn:((((List.range g.levels.length).map (lvH g)).foldl Zd1 (a0,[])).1).map (·.1)=noT::allN g:=by
  refine Zt0 _ _ _ hN fun x hx t ht=>?_
  obtain ⟨i,_,rfl⟩:=List.mem_map.1 hx
  obtain ⟨s,a1,a2,_,a4⟩:=Zhe.1 (show t∈levN g i from ht)
  exact List.mem_cons_of_mem _ (Zgv.2 ⟨s,a1,a2,rfl,a4⟩)
 refine ZZ178 (by rw[hn,Zjk v]) (by rw[hn];exact Zhy v) fun t=>?_
 by_cases hm:t∈noT::allN g
 ·rcases List.mem_cons.1 hm with rfl|hm
  ·rw[q2]
   have:=Zsy v (s:=0) (by omega) (by omega)
   have e0:nameOf g 0=noT∧Zci g 0=0:=by unfold nameOf Zci;rw[v.t0];exact ⟨rfl,rfl⟩
   rw[e0.1,e0.2]at this;exact this.symm
  ·obtain ⟨s,a1,a2,_,rfl⟩:=Zgv.1 hm
   have hl:Zci g s≤g.levels.length:=by
    obtain ⟨hk,_,e⟩:=Zjb (fun _ _=>trivial) (by omega) a2
    rw[e];exact (v.bound.tlev _ (List.getElem_mem hk)).2
   rw[q3 s a1 a2,if_pos hl,Zsy v (by omega) a2]
 ·rw[Zg9.2 (by rw[hn];exact hm),Zg9.2 (by rw[Zjk v];exact hm)]
end Go.Px.Spec
namespace Go.Px.Spec
open Go.Px Go.Px.Scan
variable {g:Gr}
theorem Zmm {s:Int}(h0:(g.terms.length:Int)≤s)(h1:s<(g.terms.length:Int)+g.nons.length):∃hk:(s-g.terms.length).toNat<g.nons.length,Zb0 g s=g.nons[(s-g.terms.length).toNat]'hk:=by
 have hk:(s-g.terms.length).toNat<g.nons.length:=by omega
 refine ⟨hk,?_⟩
 unfold Zb0;rw[List.getD_eq_getElem?_getD,List.getElem?_eq_getElem hk];rfl
theorem Zq3 (v:Zbh g){s:Int}(h0:(g.terms.length:Int)≤s)(h1:s<(g.terms.length:Int)+g.nons.length):nonX g.terms.length g.nons (Zb0 g s)=s:=by
 obtain ⟨hk,e⟩:=Zmm h0 h1
 have hn:g.nons.Nodup:=by have:=v.syms.nnd;rwa [List.drop_zero]at this
 unfold nonX
 rw[e,pos_at hn hk,if_pos hk];omega
theorem Zvb (v:Zbh g):dd (g.prods.map fun p=>Zb0 g p.1)=g.nons:=by
 have hrow:=(Zhz.row v.prods).1 v.sorted
 have hlen:(Zj g.prods).length=g.nons.length:=by have:=v.prods.lefts;rw[List.drop_zero]at this;exact this
 have hb:=v.bound
 have hinj:∀x y:ByteArray,x∈g.nons→y∈g.nons→nonX g.terms.length g.nons x=nonX g.terms.length g.nons y→x=y:=fun x y hx hy h=>by
  unfold nonX at h
  rw[if_pos (Zc2 hx).1,if_pos (Zc2 hy).1]at h
  exact (Zp5 hx (by omega)).symm
 have hin:∀p∈g.prods,Zb0 g p.1∈g.nons∧nonX g.terms.length g.nons (Zb0 g p.1)=p.1:=fun p hp=>by
  have h1:=hb.left p hp
  obtain ⟨hk,e⟩:=Zmm h1.2 h1.1.2
  exact ⟨by rw[e];exact List.getElem_mem hk,Zq3 v h1.2 h1.1.2⟩
 have:=Zpp (f:=nonX g.terms.length g.nons) (g:=fun r:RowS=>(nonX g.terms.length g.nons r.left,([]:List Int),(0:Int))) (P:=fun x=>x∈g.nons) (fun x y=>hinj x y) (g.prods.map (rowG g)) [] (by simp) fun r hr=>by
  obtain ⟨p,hp,rfl⟩:=List.mem_map.1 hr
  exact ⟨(hin p hp).1,rfl⟩
 rw[List.map_nil,List.map_map,List.map_map]at this
 have e1:(g.prods.map ((fun r:RowS=>(nonX g.terms.length g.nons r.left,([]:List Int),(0:Int)))∘rowG g)).foldl (fun a p=>addL a p.1) []=Zj g.prods:=by
  have:∀(l:List (Int×List Int×Int)),(∀p∈l,p∈g.prods)→∀a:List Int,(l.map ((fun r:RowS=>(nonX g.terms.length g.nons r.left,([]:List Int),(0:Int)))∘rowG g)).foldl (fun a p=>addL a p.1) a=l.foldl (fun a p=>addL a p.1) a:=fun l=>by
   induction l with
   | nil=>exact fun _ _=>rfl
   | cons p l ih=>
    intro hl a
    rw[List.map_cons,List.foldl_cons,List.foldl_cons]
    have e:((fun r:RowS=>(nonX g.terms.length g.nons r.left,([]:List Int),(0:Int)))∘rowG g) p=(p.1,[],0):=by
     show (nonX g.terms.length g.nons (Zb0 g p.1),_,_)=_
     rw[(hin p (hl p (by simp))).2]
    rw[e]
    exact ih (fun q hq=>hl q (by simp[hq])) _
  exact this g.prods (fun _ h=>h) []
 rw[e1]at this
 have e2:dd (g.prods.map fun p=>Zb0 g p.1)=(g.prods.map ((fun x:RowS=>x.left)∘rowG g)).foldl addB []:=rfl
 rw[←e2]at this
 generalize hD:dd (g.prods.map fun p=>Zb0 g p.1)=D at this ⊢
 have hmem:∀x∈D,x∈g.nons:=fun x hx=>by
  rw[←hD,Zgl]at hx
  obtain ⟨p,hp,rfl⟩:=List.mem_map.1 hx
  exact (hin p hp).1
 have hDl:D.length=g.nons.length:=by have:=congrArg List.length this;simp at this;omega
 refine List.ext_getElem hDl fun i h1 h2=>?_
 have hi:i<(Zj g.prods).length:=by omega
 have e3:=hrow i hi
 have e4:(Zj g.prods)[i]=nonX g.terms.length g.nons D[i]:=by simp only[this,List.getElem_map]
 rw[e3]at e4
 have hx:=hmem D[i] (List.getElem_mem h1)
 have hp:=Zc2 hx
 unfold nonX at e4
 rw[if_pos hp.1]at e4
 have e5:posN g.nons D[i]=i:=by omega
 rw[e5,List.getElem?_eq_getElem h2]at hp
 injection hp.2 with e6;exact e6.symm
theorem ZZ254 (v:Zbh g){s:Int}(h0:Zf5 g s)(h1:1≤s):kSym g.terms g.nons ((symW g s).2.1,Zdj g.nons (symW g s))=s:=by
 unfold symW
 by_cases ht:s<g.terms.length
 ·rw[if_pos ht]
  have:Zdj g.nons ((2:Int),nameOf g s,(0:Int))=false:=by unfold Zdj;simp
  rw[this]
  show posI g.terms (nameOf g s)=s
  unfold posI
  rw[Zp9 v (by omega) ht,if_pos (by omega)];omega
 ·rw[if_neg ht]
  obtain ⟨hk,e⟩:=Zmm (g:=g) (s:=s) (by omega) h0.2
  have:Zdj g.nons ((1:Int),Zb0 g s,(0:Int))=true:=by
   unfold Zdj
   rw[e]
   simp[Zae]
  rw[this]
  exact Zq3 v (by omega) h0.2
theorem Zpv {s:Int}:lvAt g.terms s=Zci g s:=by
 unfold lvAt Zci
 rw[List.getD_eq_getElem?_getD]
 cases g.terms[s.toNat]?<;>rfl
theorem ZZ275 (v:Zbh g){p:Int×List Int×Int}(hp:p∈g.prods):kPr g.terms g.nons (rk g.nons (rowG g p))=p:=by
 have hb:=v.bound
 have h1:=hb.left p hp
 have hr:((rk g.nons (rowG g p)).2.1).map (kSym g.terms g.nons)=p.2.1:=by
  show ((p.2.1.map (symW g)).map fun w=>(w.2.1,Zdj g.nons w)).map _=_
  rw[List.map_map,List.map_map]
  conv=>rhs;rw[←List.map_id p.2.1]
  refine List.map_congr_left fun s hs=>?_
  exact ZZ254 v (hb.right p hp s hs).1 (hb.right p hp s hs).2
 unfold kPr kLev
 rw[hr]
 have e1:nonX g.terms.length g.nons (rk g.nons (rowG g p)).1=p.1:=Zq3 v h1.2 h1.1.2
 rw[e1]
 have e2:(rk g.nons (rowG g p)).2.2=Zis g p:=rfl
 rw[e2]
 have e3:(if (Zis g p).1=2 then 0 else if (Zis g p).1=1 then lvAt g.terms (posI g.terms (Zis g p).2) else p.2.1.foldl (lev1 g.terms) 0)=p.2.2:=by
  unfold Zis
  by_cases c1:p.2.2=Zkj g p.2.1
  ·rw[if_pos c1]
   show (if (0:Nat)=2 then (0:Int) else if (0:Nat)=1 then _ else p.2.1.foldl (lev1 g.terms) 0)=_
   rw[if_neg (by omega),if_neg (by omega),c1]
   unfold Zkj lev1
   simp only[Zpv]
  ·rw[if_neg c1]
   by_cases c2:p.2.2=0
   ·rw[if_pos c2];exact c2.symm
   ·rw[if_neg c2]
    have hl:=hb.plev p hp
    obtain ⟨s,e,a,b,c⟩:=v.first (x:=p.2.2) (by omega) hl.2
    show (if (1:Nat)=2 then (0:Int) else if (1:Nat)=1 then lvAt g.terms (posI g.terms (nameOf g ((Za3 g (fun x=>x == p.2.2)).headD 0))) else _)=_
    rw[if_neg (by omega),if_pos rfl,e]
    unfold posI
    rw[Zp9 v (by omega) b,if_pos (by omega),Zpv,←c]
    congr 1;omega
 rw[e3]
theorem ZZ98 (v:Zbh g)(ks:List RKey)(hk:∀k∈ks,∀t∈rkT k,t∈g.terms.map (·.1)):ks.foldl kNum g.terms=g.terms:=by
 have h1:∀l:List ByteArray,(∀t∈l,t∈g.terms.map (·.1))→l.foldl (fun ts t=>putT ts t 0) g.terms=g.terms:=fun l=>by
  induction l with
  | nil=>exact fun _=>rfl
  | cons t l ih=>
   intro h
   rw[List.foldl_cons,Zyr,if_pos (Zae.2 (h t (by simp)))]
   exact ih fun x hx=>h x (by simp[hx])
 induction ks with
 | nil=>rfl
 | cons k ks ih=>
  rw[List.foldl_cons]
  unfold kNum
  rw[h1 _ (hk k (by simp))]
  exact ih fun x hx=>hk x (by simp[hx])
theorem Zp0 (v:Zbh g){s:Int}(h0:0≤s)(h1:s<g.terms.length):nameOf g s∈g.terms.map (·.1):=by
 obtain ⟨hk,e,_⟩:=Zjb (fun _ _=>trivial) h0 h1
 rw[e];exact List.mem_map.2 ⟨_,List.getElem_mem hk,rfl⟩
theorem ZZ148 (v:Zbh g):∃mf,goM m0 (lnW (Zju g))=(mf,[])∧Zet mf=true∧outM mf=(g,0,0):=by
 have hb:=v.bound
 have hps:g.prods≠[]:=fun e=>by have:=v.prods.c0;rw[e]at this;simp at this
 have hst:=hb.start
 have e1:lnW (Zju g)=lnW (tokW g++(List.range g.levels.length).map (levW g))++(hdS (Zb0 g g.start)++lnW (g.prods.map (Zoc g))):=by
  unfold Zju
  rw[←List.append_assoc,Zqt]
  congr 1
  show (3,Zh2,0)::[symW g g.start,Zjz]++lnW (g.prods.map (Zoc g))=_
  rw[Zp2 hst.2];rfl
 have hgo:goM m0 (lnW (Zju g))=goM ⟨0,Zfg g g.levels.length,Zb0 g g.start,noT,[],[]⟩ (lnW (g.prods.map (Zoc g))):=by
  rw[e1,ZZ48 v [] _ (Nat.le_refl _)]
  unfold hdS
  rw[List.cons_append,List.cons_append,List.cons_append,List.nil_append]
  rw[Zcc (m':=⟨3,Zfg g g.levels.length,noT,noT,[],[]⟩) (by rw[Zdd];rfl),Zcc (m':=⟨4,Zfg g g.levels.length,Zb0 g g.start,noT,[],[]⟩) (by rw[Zdd];rfl),Zcc (m':=⟨0,Zfg g g.levels.length,Zb0 g g.start,noT,[],[]⟩) (by rw[Zdd];rfl)]
 obtain ⟨rl,hgo2⟩:=ZZ91 v g.prods (m:=⟨0,Zfg g g.levels.length,Zb0 g g.start,noT,[],[]⟩) (fun _ h=>h) (.inl rfl) hps
 refine ⟨_,by rw[hgo,hgo2],?_,?_⟩
 ·obtain ⟨hk,e⟩:=Zmm hst.2 hst.1.2
  have:Zb0 g g.start∈g.prods.map fun p=>Zb0 g p.1:=by
   rw[←Zgl,Zvb v,e];exact List.getElem_mem hk
  simp[Zet,Zae]
  right
  obtain ⟨p,hp,e⟩:=List.mem_map.1 this
  exact ⟨p.1,⟨p.2.1,p.2.2,hp⟩,e⟩
 ·have hd:dd ([]++g.prods.map fun p=>Zb0 g p.1)=g.nons:=Zvb v
  unfold outM keys
  simp only[hd]
  obtain ⟨t1,t2⟩:=Zz1 v
  rw[t1,t2]
  have hks:∀k∈([]++g.prods.map (rowG g)).map (rk g.nons),∀t∈rkT k,t∈g.terms.map (·.1):=fun k hk t ht=>by
   rw[List.nil_append,List.map_map]at hk
   obtain ⟨p,hp,rfl⟩:=List.mem_map.1 hk
   unfold rkT at ht
   rcases List.mem_append.1 ht with ht|ht
   ·obtain ⟨w,hw,rfl⟩:=List.mem_map.1 ht
    obtain ⟨hw,hn⟩:=List.mem_filter.1 hw
    have hw:w∈(p.2.1.map (symW g)).map fun w=>(w.2.1,Zdj g.nons w):=hw
    rw[List.map_map]at hw
    obtain ⟨s,hs,rfl⟩:=List.mem_map.1 hw
    have hr:=hb.right p hp s hs
    by_cases hts:s<g.terms.length
    ·have:(symW g s).2.1=nameOf g s:=by unfold symW;rw[if_pos hts]
     show (symW g s).2.1∈_
     rw[this];exact Zp0 v (by omega) hts
    ·exfalso
     obtain ⟨hk,e⟩:=Zmm (g:=g) (s:=s) (by omega) hr.1.2
     have:Zdj g.nons (symW g s)=true:=by
      rw[Zp2 (by omega)]
      unfold Zdj
      rw[e];simp[Zae]
     have hn:(!Zdj g.nons (symW g s))=true:=hn
     rw[this]at hn;cases hn
   ·have ht:t∈(if (Zis g p).1=1 then [(Zis g p).2] else []):=ht
    unfold Zis at ht
    by_cases c1:p.2.2=Zkj g p.2.1
    ·rw[if_pos c1]at ht;simp at ht
    ·rw[if_neg c1]at ht
     by_cases c2:p.2.2=0
     ·rw[if_pos c2]at ht;simp at ht
     ·rw[if_neg c2]at ht
      have hl:=hb.plev p hp
      obtain ⟨s,e,a,b,c⟩:=v.first (x:=p.2.2) (by omega) hl.2
      rw[e]at ht
      simp at ht
      rw[ht];exact Zp0 v (by omega) b
  rw[ZZ98 v _ hks]
  unfold outT
  have hsum:=v.syms.sum
  have hc1:=v.prods.c1
  rw[if_neg (by simp;omega)]
  have hn0:Zb0 g g.start≠noT:=Zeu (v.non hst.2 hst.1.2).2.1
  rw[if_neg hn0,Zq3 v hst.2 hst.1.2]
  have hp:(([]++g.prods.map (rowG g)).map (rk g.nons)).map (kPr g.terms g.nons)=g.prods:=by
   rw[List.nil_append,List.map_map,List.map_map]
   conv=>rhs;rw[←List.map_id g.prods]
   exact List.map_congr_left fun p hp=>ZZ275 v hp
  rw[hp]
theorem ZZ116 (v:Zbh g){t:Txt}(h:Zly g=some t)(hs:t.length≤8192):refG (BA t)=(g,0,0)∧(Zah (BA t)).2=none∧0<(Zah (BA t)).1.length:=by
 obtain ⟨mf,g1,g2,g3⟩:=ZZ148 v
 have ht:=Zuq v.no_start h
 have hL:=Zzv v
 have hne:Zsh g≠[]:=by unfold Zsh;simp
 obtain ⟨l',w1,w2⟩:=Zue hL hne (T:=BA t) (by rw[Zsg];exact ht) (by rw[Zhf];exact hs)
 have e1:=er_go l' m0
 have e2:=er_go (lnW (Zju g)) m0
 rw[w2,e2,g1]at e1
 cases hg2:goM m0 l' with
 | mk m2 r2=>
  rw[hg2]at e1
  injection e1 with e1 e3
  have hr:r2=[]:=by cases r2 with
   | nil=>rfl
   | cons x r=>cases e3
  subst hr
  have he2:Zet m2=true:=by rw[←ZZ181 m2,←e1,ZZ181];exact g2
  have hk:∀m:Mc,keys (erM m)=keys m:=fun m=>by
   unfold keys erM
   simp only[List.map_map]
   refine List.map_congr_left fun r _=>?_
   show rk _ (erR r)=rk _ r
   unfold rk erR
   simp only[List.map_map]
   rfl
  have ho2:∀m:Mc,outM (erM m)=outM m:=fun m=>by unfold outM;rw[hk];rfl
  refine ⟨by rw[ZZ190 w1 hg2 he2,←ho2 m2,←e1,ho2,g3],by rw[w1],?_⟩
  rw[w1]
  have:=congrArg List.length w2
  rw[List.length_map,List.length_map]at this
  show 0<l'.length
  rw[this]
  unfold Zju
  rw[Zqt,Zqt]
  simp[lnW]
  have hps:0<g.prods.length:=by have:=v.prods.c0;omega
  omega
end Go.Px.Spec
namespace Go.Proofs.YtckbgeedlobfaaaGreatDoor
open Go.Px Go.Px.Scan Go.Px.Spec Go.RowKit
attribute [-go_sem] Builtin.append_ Zy.b1_1 Zy.b1_2 Zy.b1_3 Zy.b1_4 Zy.b1_5 Zy.b1_6 Zy.b1_7 Zy.b1_8 Zy.b1_9
theorem ZZ207 {g:Gr}(v:Zbh g){t:Txt}(h:Zly g=some t):t.length≤8192:=by
 have hps:0<g.prods.length:=by have:=v.prods.c0;omega
 obtain ⟨k,hk⟩:∃k,g.prods.length=k+1:=⟨g.prods.length-1,by omega⟩
 rw[←Zon,hk,Zi1 g (by omega)]at h
 cases hn:Zic g k with
 | none=>rw[hn]at h;cases h
 | some t0=>
  rw[hn]at h
  simp only[addP,Option.bind_some]at h
  rw[if_neg (v.no_start _ (List.getElem_mem _))]at h
  split at h
  ·cases h
  ·injection h with h;rw[←h];omega
theorem Zte {w:World}{B:Nat}{vg:Value}{g:Gr}(h:Zcz.atN w B vg g)(hB:B≤w.heap.size)(hfit:GFit g)(hsm:∀p∈g.prods,p.2.1.length≤1000000000000)(hO:Ord w B) :
  Ct Tryz.prog Zy.id #[vg] w fun v w'=>v = .bool true∧Chg noB w w':=by
 refine Zy.ct fun R hR=>?_
 obtain ⟨A1,c1,A2,c2,A3,c3,A4,c4,rfl,h1,h2,h3,hst,h4,k1,k2,k3,k4⟩:=(Zbl h).ex
 have s0:=(St.refl noB w).alloc #[.slice A1 g.terms.length c1,.slice A2 g.nons.length c2,.slice A3 g.levels.length c3,.int .i64 g.start,.slice A4 g.prods.length c4] 27
 have rdg:∀w',Chg noB w w'→Zcz.atN w' B (.agg #[.slice A1 g.terms.length c1,.slice A2 g.nons.length c2,.slice A3 g.levels.length c3,.int .i64 g.start,.slice A4 g.prods.length c4]) g∧B≤w'.heap.size:=fun w' hc=>⟨Za2 h (hc.below hB fun _ _=>id),by have:=hc.size;omega⟩
 have ord:∀w',Chg noB w w'→Ord w' B:=fun w' hc=>hO.chg hc hB fun _ _=>id
 unfold Zy.run
 simp -dsimp[go_sem]
 generalize w.heap.size=q at s0 ⊢
 generalize w.alloc (.cells #[.slice A1 g.terms.length c1,.slice A2 g.nons.length c2,.slice A3 g.levels.length c3,.int .i64 g.start,.slice A4 g.prods.length c4] 27)=w1 at s0 ⊢
 have aw:∀w',Chg noB w w'→CALL Tryz.prog (pan R) Zdu.id #[] w' fun v w''=>R (.returned v) w'':=fun w' hc=>by
  refine Zf (ZZ76 w') ?_
  rintro _ w'' ⟨rfl,hc2⟩
  exact hR _ _ ⟨rfl,hc.trans hc2⟩
 refine Zf (ZZ208 (rdg _ s0.chg).1 (rdg _ s0.chg).2 hfit) ?_
 rintro v2 w2 hn2
 have hr2:=hn2.read
 have hc2:=hn2.chg
 obtain ⟨D1,d1,D2,d2,D3,d3,D4,d4,rfl,_⟩:=(Zbl hr2).ex
 have s2:=s0.old hc2
 refine Zf (ZZ60 hr2 (Nat.le_refl _) hsm) ?_
 rintro _ w3 ⟨rfl,hc3⟩
 have s3:=s2.old hc3
 have y3:=s3.box 0 rfl
 simp[Zp]at y3
 unfold Zy.b1_9
 simp -dsimp[go_sem,y3]
 refine Zf (Ztq (rdg _ s3.chg).1 (rdg _ s3.chg).2) ?_
 rintro _ w4 ⟨rfl,hc4⟩
 have s4:=s3.old hc4
 unfold Zy.b1_8
 simp -dsimp[go_sem]
 refine Za (fun p1=>?_) (fun p1=>?_)
 ·exact aw _ s4.chg
 have hv:Zbh g:=Zfz.1 (by simpa using p1)
 have he:Zeh g=true:=Zhb.2 (.inl hv)
 unfold Zy.b1_7
 cases ht:Zly g with
 | none=>
  have hE:Zld g=11:=by unfold Zld;rw[he,ht];rfl
  rw[hE]
  simp -dsimp[go_sem]
  unfold Zy.b1_1
  simp -dsimp[go_sem]
  exact aw _ s4.chg
 | some t=>
  have hE:Zld g=0:=by unfold Zld;rw[he,ht];rfl
  have hA:Znn g=t:=by unfold Znn;rw[he,ht];rfl
  have htl:=ZZ207 hv ht
  obtain ⟨hb1,hb2,hb3⟩:=ZZ116 hv ht htl
  have hum:(BA t).size≤maxLen:=by rw[Zhf];unfold maxLen;omega
  rw[hE,hA]
  simp -dsimp[go_sem]
  refine Zf (Zu3 hum (ord _ s4.chg) (rdg _ s4.chg).2) ?_
  rintro v5 w5 ⟨hw5,hc5⟩
  have s5:=s4.old hc5
  have hs0:∀w',St noB w w' ([]++[boxC q 27 #[Value.slice A1 g.terms.length c1,Value.slice A2 g.nons.length c2,Value.slice A3 g.levels.length c3,Value.int IntKind.i64 g.start,Value.slice A4 g.prods.length c4].toList])→St noB w w' [boxC q 27 [.slice A1 g.terms.length c1,.slice A2 g.nons.length c2,.slice A3 g.levels.length c3,.int .i64 g.start,.slice A4 g.prods.length c4]]:=fun w' h=>h
  have s5:=hs0 _ s5
  unfold Zo3 at hw5
  rw[hb2]at hw5
  obtain ⟨sl,rfl,how⟩:=hw5
  obtain ⟨a,c,rfl⟩:=Zkd how
  unfold Zy.b1_6
  have s6:=s5.alloc zM.toArray 36
  have al2:(Instr.alloc 36 true (.tuple #[])).run Tryz.prog w5 = .ok (.pointer (some ⟨w5.heap.size,0,none⟩)) (w5.alloc (.cells zM.toArray 36)):=by simp -dsimp[go_sem,zM]
  rw[Zd0,xt0,Zb9,Zd0,xt1,Zb9,Zd0,al2,Zb9]
  generalize w5.alloc (.cells zM.toArray 36)=w6 at s6 ⊢
  generalize w5.heap.size=qm at s6 ⊢
  obtain ⟨w7,r7,s7⟩:=Zpl (c:=0) (a:=0) (g:=zM) (q3:=qm) s6 (k:=1) rfl rfl
  rw[Zf2,r7,Zfo]
  refine Zf (ZZ210 hum (ord _ s7.chg) (rdg _ s7.chg).2) ?_
  rintro v8 w8 ⟨vh,rfl,hn8⟩
  rw[hb1]at hn8 ⊢
  have hr8:=hn8.read
  have hc8:=hn8.chg
  obtain ⟨E1,e1,E2,e2,E3,e3,E4,e4,rfl,_⟩:=(Zbl hr8).ex
  unfold Zy.b1_5
  refine take2 (s7.old hc8) fun q3 q4 w9 hc9 s9=>?_
  have y1:=(s9.box 1 rfl).1
  have y3:=(s9.box 3 rfl).1
  have y0:=(s9.box 0 rfl).1
  have y2:=(s9.box 2 rfl).1
  simp[Zp,mB]at y0 y1 y2 y3
  simp -dsimp[go_sem,y1]
  have hlw:(0:Int)<(Zah (BA t)).1.length:=by omega
  unfold Zy.b1_4
  simp -dsimp[go_sem,hb3,hlw]
  unfold Zy.b1_3
  simp -dsimp[go_sem,y3]
  unfold Zy.b1_2
  simp -dsimp[go_sem,y0,y2]
  refine Zf (Zwi (Zvg (Za2 hr8 (hc9.below (Nat.le_refl _) fun _ _=>id)) hc9.size) (Zvg (rdg _ s9.chg).1 (rdg _ s9.chg).2) (Nat.le_refl _)) ?_
  rintro _ w10 ⟨rfl,hc10⟩
  rw[Zmu.2 rfl]
  simp -dsimp[go_sem]
  exact aw _ (s9.chg.trans hc10)
end Go.Proofs.YtckbgeedlobfaaaGreatDoor
namespace Go.Proofs.YtckbgeedlobfaaaGreatDoor
open Go.Px Go.Px.Scan Go.ChangeShapes Go.WideShapes Go.ChangeAt Go.RowKit
theorem own:ownKnob Tryz.prog.godebug=none:=by kernel_rfl
theorem gTab:Tryz.prog.globalNamed "presage/scan.orders" = some 0:=by kernel_rfl
theorem ZZ117:(Tryz.prog.globals[0]?).map (·.type)=some 23:=by kernel_rfl
theorem ZZ182:Tryz.prog.cellsOf 9=1:=by kernel_rfl
theorem ZZ177:Zhi Tryz.prog 9 rStr:=Zze Tryz.underlying9 ZZ182 (by kernel_rfl)
theorem Zq9:Zhi Tryz.prog 3 rInt:=Zxv Tryz.underlying3 (by kernel_rfl) (by kernel_rfl)
theorem Zvz:∀{a b:List ByteArray},(strs a:List (DataW Unit))=strs b→a=b:=by
 intro a
 induction a with
 | nil=>intro b h;cases b with
  | nil=>rfl
  | cons y b=>simp[strs]at h
 | cons x a ih=>intro b h;cases b with
  | nil=>simp[strs]at h
  | cons y b=>
   simp only[strs,List.map_cons,List.cons.injEq]at h
   obtain ⟨h1,h2⟩:=h
   have e:x=y:=by
    injection h1 with h1
    injection h1 with h1
    cases x;cases y
    simp at h1
    cases h1;rfl
   rw[e,ih h2]
theorem Zyc:(Rows.laid_presage_scan_orders:DataW Unit) = .slice (strs Zd9) (strs []):=rfl
theorem Zty {W:World}(h:laidMetH Tryz.prog [("presage/scan.orders",Rows.laid_presage_scan_orders)] W):Ord W W.heap.size:=by
 have h':laidMet Tryz.prog [("presage/scan.orders",Rows.laid_presage_scan_orders)] W:=h
 obtain ⟨ps,⟨g,t,cs,fuel,p,q,hg,ht,hvar,hd,_,_⟩,_⟩:=h'
 obtain rfl:=Option.some.inj (gTab.symm.trans hg)
 obtain rfl:=Option.some.inj (ZZ117.symm.trans ht)
 rcases open_strings Tryz.underlying23 Tryz.underlying9 ZZ182 hd with ⟨_,h0⟩|⟨a,len,cap,ss,hcs,_,hl,hm,hlen,hx,hcell,hsz⟩
 ·cases h0
 ·injection hx with hx _
  rw[Zyc]at hx
  injection hx with h1 h2
  have e1:=Zvz h1
  have e2:=Zvz h2
  have hss:ss=Zd9:=by
   have:=List.take_append_drop len ss
   rw[←e1,←e2]at this
   rw[←this];simp
  subst hss
  have hl7:len=7:=by
   have h3:=congrArg List.length e1
   have h4:=congrArg List.length e2
   simp[Zd9]at h3 h4 hlen
   omega
  subst hl7
  have hc0:W.cell? ⟨0,0,none⟩=some (.slice (some a) 7 cap):=by
   rw[World.var?_cell hg hvar 0,←Array.getElem?_toList,hcs];rfl
  have key:∀i,i<7→W.cell? (a.add i)=some (.string (Zd9.getD i ByteArray.empty)):=fun i hi=>hcell i (by simpa[Zd9]using hi)
  have ha:a=⟨a.block,a.off,none⟩:=by
   have h0:=key 0 (by omega)
   simp only[Addr.add,if_pos]at h0
   unfold World.cell? at h0
   split at h0
   ·split at h0
    ·cases h0
    ·rename_i hsp
     cases a with
     | mk b o s=>cases s with
      | none=>rfl
      | some s=>simp at hsp
   ·cases h0
  have hlt:a.block<W.heap.size:=World.block_lt_of_cell? W _ (key 0 (by omega))
  refine ⟨Nat.lt_of_le_of_lt (Nat.zero_le _) hlt,some a,cap,hc0,?_⟩
  refine ⟨some a,cap,rfl,hl,hm,trivial,fun _=>⟨a.block,a.off,by rw[←ha],hlt,fun i x hi=>⟨[.string x],⟨rfl,?_⟩,fun j u hj=>?_⟩⟩⟩
  ·exact hsz x (List.mem_of_getElem? hi)
  ·have hi7:i<7:=by have:=(List.getElem?_eq_some_iff.1 hi).1;simpa[Zd9]using this
   have h1:=key i hi7
   rw[ha,Addr.add_lit]at h1
   have hj0:j=0:=by have:=(List.getElem?_eq_some_iff.1 hj).1;simp at this;omega
   subst hj0
   simp at hj
   subst hj
   simp only[List.getD_eq_getElem?_getD,hi,Option.getD_some]at h1
   simpa[rStr]using h1
noncomputable def Zmn (os:Os):World :=
 let W:=World.holding Tryz.prog os ⟨#[],#[],[]⟩
 let W1:=W.alloc (.cells #[.string ⟨#[37,108,101,102,116]⟩,.string ⟨#[37,110,111,110,97,115,115,111,99]⟩,.string ⟨#[37,110,111,110,101]⟩,.string ⟨#[37,112,114,101,99]⟩,.string ⟨#[37,114,105,103,104,116]⟩,.string ⟨#[37,115,116,97,114,116]⟩,.string ⟨#[37,116,111,107,101,110]⟩] 9)
 {W1 with heap:=W1.heap.modify 0 fun
   | .cells _ t frozen=> .cells #[.slice (some ⟨W.heap.size,0,none⟩) 7 7] t frozen
   | o=>o }
theorem ZZ85 (os:Os)(args:Array Value):laidMet Tryz.prog [("presage/scan.orders",Rows.laid_presage_scan_orders)] ((Zmn os).forCall (fun _ _=>0) ⟨#[],args,[]⟩).memory :=
 laidMet_of_run' 8 (by kernel_rfl) (by kernel_rfl)
end Go.Proofs.YtckbgeedlobfaaaGreatDoor
namespace Go.Proofs.YtckbgeedlobfaaaGreatDoor
open Go.Px Go.Px.Scan Go.ChangeShapes Go.WideShapes Go.ChangeAt Go.RowKit
theorem Zy7:Zhi Tryz.prog 24 (Zo rInt):=Zhg Tryz.underlying24 (by kernel_rfl) (by kernel_rfl) (by decide) Zq9
theorem ZZ251:Zhi Tryz.prog 64 Zl1:=Zh8 Tryz.underlying64 (by kernel_rfl) (by kernel_rfl) (Zen ZZ177 (Zlg Zq9))
theorem ZZ206:Zhi Tryz.prog 22 (Zo Zl1):=Zhg Tryz.underlying22 (by kernel_rfl) (by kernel_rfl) (by decide) ZZ251
theorem ZZ192:Zhi Tryz.prog 23 (Zo rStr):=Zhg Tryz.underlying23 (by kernel_rfl) (by kernel_rfl) (by decide) ZZ177
theorem ZZ259:Zhi Tryz.prog 50 rPr:=Zh8 Tryz.underlying50 (by kernel_rfl) (by kernel_rfl) (Zen Zq9 (Zen Zy7 (Zlg Zq9)))
theorem ZZ197:Zhi Tryz.prog 25 (Zo rPr):=Zhg Tryz.underlying25 (by kernel_rfl) (by kernel_rfl) (by decide) ZZ259
theorem ZZ265:Zhi Tryz.prog 27 Zcz:=ZZ44 (g:=fun a=>⟨a.1,a.2.1,a.2.2.1,a.2.2.2.1,a.2.2.2.2⟩) (fun _=>rfl)
 (Zh8 Tryz.underlying27 (by kernel_rfl) (by kernel_rfl) (Zen ZZ206 (Zen ZZ192 (Zen Zy7 (Zen Zq9 (Zlg ZZ197))))))
end Go.Proofs.YtckbgeedlobfaaaGreatDoor
namespace Go.Px.Scan
open Go.Px
theorem ZZ271 {α:Type}{f:α→Nat}{l:List α}{x:α}(h:x∈l):f x≤(l.map f).sum:=by
 induction l with
 | nil=>cases h
 | cons y r ih=>
  rw[List.map_cons,List.sum_cons]
  rcases List.mem_cons.1 h with rfl|h
  ·omega
  ·have:=ih h;omega
theorem ZZ356 {α:Type}{f:α→Nat}{l:List α}(h:∀x,1≤f x):l.length≤(l.map f).sum:=by
 induction l with
 | nil=>simp
 | cons y r ih=>
  rw[List.map_cons,List.sum_cons,List.length_cons]
  have:=h y;omega
theorem Zyt (l:List Int):l.length≤(Zo rInt).bulk l:=by
 show l.length≤(l.map rInt.bulk).sum+1
 have:=ZZ356 (f:=rInt.bulk) (l:=l) (fun _=>Nat.le_refl 1)
 omega
theorem Zxj {g:Gr}{n:Nat}(h:Zcz.bulk g≤n):∀p∈g.prods,p.2.1.length≤n:=by
 intro p hp
 have h1:(g.prods.map rPr.bulk).sum+1≤n:=by
  have e:Zcz.bulk g=(Zo Zl1).bulk g.terms+((Zo rStr).bulk g.nons+((Zo rInt).bulk g.levels+(rInt.bulk g.start+(Zo rPr).bulk g.prods))):=rfl
  have e2:(Zo rPr).bulk g.prods=(g.prods.map rPr.bulk).sum+1:=rfl
  omega
 have h2:=ZZ271 (f:=rPr.bulk) hp
 have h3:rPr.bulk p=1+((Zo rInt).bulk p.2.1+1):=rfl
 have h4:=Zyt p.2.1
 omega
end Go.Px.Scan
namespace Go.Proofs.YtckbgeedlobfaaaGreatDoor
open Go.Px
theorem Zza {H:Type}:Zvt (H:=H) Rows.uptoBulk Rows.uptoBulkAll where
 str b:=by simp[Rows.uptoBulk]
 lit l:=by cases l<;>simp[Rows.uptoBulk]
 nil:=by simp[Rows.uptoBulk]
 slice e s:=by simp[Rows.uptoBulk]
 agg p:=by simp[Rows.uptoBulk]
 all0:=by simp[Rows.uptoBulkAll]
 allc d r:=by simp[Rows.uptoBulkAll]
end Go.Proofs.YtckbgeedlobfaaaGreatDoor
namespace Go.Proofs.YtckbgeedlobfaaaGreatDoor.showBack
open Go.Px Go.ChangeShapes Go.WideShapes Go.ChangeAt Go.RowKit Go.Px.Scan
set_option maxRecDepth 100000 in
theorem contract (H:Type)(enc:TypeId×Value→H)(W:World)(base:Nat)(args:Array Value)(ds gs:List (DataW H))(before:List MemPlace)
  (hval:∀(j:Nat) t v,Tryz.f3.params[j]?=some t→args[j]?=some v→Value.okWide Tryz.prog W .any base t v)
  (hW:DataW.Whole enc Tryz.prog Tryz.f3.params.toList Rows.showBackSpec.vars false W args.toList ds gs before)
  (hup:Rows.uptoSmall H (ds++gs)=true)
  (hwt:(DataW.weightsEach Tryz.prog (Tryz.f3.params.toList++(Rows.OpenSpec.upto Rows.showBackSpec).bare.plain.varTypes Tryz.prog) (ds++gs)).all (·≤reachBytes)=true) (hL:laidMetH Tryz.prog Rows.showBackUptoRow.laid W) :
  Calls Tryz.prog 3 args W fun e W'=>∃v,e = .returned v∧Rows.showBackSpec.post enc Tryz.prog Tryz.f3 false true false false W args v W':=by
 have hW':=hW
 obtain ⟨p,q,hA0,hV,rfl,hfz,hnd⟩:=hW
 have hA:DataW.TrodAll enc Tryz.prog W 0 (fun _=>true) true Tryz.f3.params.toList args.toList ds p:=hA0
 rw[Tryz.params3]at hA hval hwt
 obtain ⟨v0,vs0,d0,ds0,p0,q0,hargs0,rfl,rfl,h0,r0⟩:=trodAll_cons hA
 obtain ⟨rfl,rfl,rfl⟩:=trodAll_nil r0
 obtain rfl:args=#[v0]:=by cases args;simp_all
 obtain ⟨rfl,rfl⟩:=trodVars_none hV
 have hwt':(DataW.weightsEach Tryz.prog ([27]++[]) ([d0]++[])).all (·≤reachBytes)=true:=hwt
 simp only[List.append_nil,DataW.weightsEach,List.all_append,Bool.and_eq_true]at hwt'
 obtain ⟨cs0,ec0,_⟩:=okWide_struct Tryz.underlying27 (hval 0 27 v0 rfl rfl)
 obtain ⟨a0,ha0,hf0,hb0⟩:=Zyu ZZ265 ec0 h0
 have hf0:=hf0 hwt'
 have hup':Rows.uptoBulkAll ([d0]++[])≤1048576:=of_decide_eq_true hup
 have hn0:=hb0 _ _ Zza
 simp only[List.cons_append,List.nil_append,Zza.allc,Zza.all0]at hup'
 have hsm0:∀p∈a0.prods,p.2.1.length≤1000000000000:=fun p hp=>by have:=Zxj (Nat.le_refl _) p hp;omega
 have hO:=Zty hL
 refine (Zte ha0 (Nat.le_refl _) (ZZ132 hf0) hsm0 hO).2.mono fun e W' he=>?_
 cases e with
 | returned v=>
  obtain ⟨rfl,hb⟩:=he
  exact ⟨_,rfl,ZZ94 (t:=4) (by kernel_rfl) (fun t ht=>by
   rw[Tryz.params3]at ht
   simp only[List.mem_cons,List.not_mem_nil,or_false]at ht
   rcases ht with rfl<;>exact ⟨by kernel_rfl,by decide +kernel⟩) rfl Tryz.underlying4 rfl hW' rfl rfl rfl (hb.below (Nat.le_refl _) fun _ _=>id)⟩
 | _=>exact he.elim
theorem reads (os:Os){H:Type}(enc:TypeId×Value→H):∃places,DataW.whole enc Tryz.prog ((Zmn os).forCall (fun _ _=>0) ⟨#[],#[.agg #[.slice none 0 0,.slice none 0 0,.slice none 0 0,.int .i64 0,.slice none 0 0]],[]⟩).memory Tryz.f3.params.toList Rows.showBackSpec.vars false #[.agg #[.slice none 0 0,.slice none 0 0,.slice none 0 0,.int .i64 0,.slice none 0 0]].toList 8=some ([.agg [.nil,.nil,.nil,.lit (.int .i64 0),.nil]],[],places) :=
 ⟨[],by kernel_rfl⟩
set_option maxRecDepth 100000 in
theorem lifted (os:Os)(started:os.Started)(H:Type)(enc:TypeId×Value→H)(F:Stop.Interp) :
  ReturnsInHanded {} Tryz.checked os 3 .any ((Rows.OpenSpec.upto Rows.showBackSpec).preRow enc Tryz.prog Tryz.f3 Rows.showBackUptoRow.domain false Rows.showBackUptoRow.laid) (((Rows.OpenSpec.upto Rows.showBackSpec).at F).post enc Tryz.prog Tryz.f3 false true false false):=by
 obtain ⟨places,hx⟩:=reads os enc
 refine returnsInHanded_of_row (C:=Tryz.checked) (s:=Rows.OpenSpec.upto Rows.showBackSpec) own started (by kernel_rfl) Tryz.func3
  (witness_row_atRef (enc:=enc) (C:=Tryz.checked) false (Zmn os) #[.agg #[.slice none 0 0,.slice none 0 0,.slice none 0 0,.int .i64 0,.slice none 0 0]] rfl (by kernel_rfl) (by kernel_rfl) (by kernel_rfl)
   (OpenSpec.preRow_of_cond 8 hx (by kernel_rfl) (fun k hk=>by cases hk;kernel_rfl) (by kernel_rfl) (ZZ85 os _))) ?_
 intro W base args ds gs before hval hW _ hcond hwt hL _ _
 exact contract H enc W base args ds gs before hval hW (hcond _ rfl) hwt hL
theorem said:Rows.ShowBackUptoSaid :=
 OpenClaim.holds_of_cond 3 Tryz.f3 rfl rfl rfl rfl rfl rfl rfl ⟨rfl,rfl,rfl,rfl,rfl⟩ rfl rfl rfl rfl rfl (by kernel_rfl) Tryz.func3 (by kernel_rfl)
  (of_decide_eq_true (by kernel_rfl)) (by unfold Func.isWrapper;first | (rw[if_pos (by decide +kernel)];kernel_rfl) | (rw[if_neg (by decide +kernel)];exact ⟨rfl,rfl⟩))
  (fun os started H enc _ F=>by rw[OpenClaim.pre_eq_preRow];exact lifted os started H enc F)
theorem plain (f:FuncId)(fn:Func)(hf:Tryz.pinned.checked.prog.funcNamed "presage/presagelaw05.ShowBack" = some f) (hfn:Tryz.pinned.checked.prog.funcs[f]?=some fn) :
  true=Tryz.pinned.checked.prog.looks []∧∀(j:Nat) t,fn.params[j]?=some t→Tryz.pinned.checked.prog.wantsStandIn t=false:=by
 obtain rfl:f=3:=Option.some.inj ((show Tryz.prog.funcNamed "presage/presagelaw05.ShowBack" = some 3 by kernel_rfl).symm.trans hf) |>.symm
 obtain rfl:fn=Tryz.f3:=(Option.some.inj (Tryz.func3.symm.trans hfn)).symm
 refine ⟨by kernel_rfl,fun j t ht=>?_⟩
 rw[Tryz.params3]at ht
 have hm:=Array.mem_of_getElem? ht
 simp only[List.mem_toArray,List.mem_cons,List.not_mem_nil,or_false]at hm
 rcases hm with rfl
 ·exact (show Tryz.prog.wantsStandIn 27=false by kernel_rfl)
theorem card:Rows.ShowBackUptoCardSaid :=
 Claim7.holds_tied_plain_at .later [] _ _ _ _ said (fun _ h=>by cases h) (by kernel_rfl) (fun _ h=>by cases h) showBackUpto_row_tie rfl ⟨rfl,rfl⟩ (by kernel_rfl) rfl plain (by kernel_rfl)
end Go.Proofs.YtckbgeedlobfaaaGreatDoor.showBack
namespace Go.Proofs.YtckbgeedlobfaaaGreatDoor
theorem ShowBack_holds:Rows.ShowBackUptoCardSaid:=showBack.card
end Go.Proofs.YtckbgeedlobfaaaGreatDoor
#print axioms Go.Proofs.YtckbgeedlobfaaaGreatDoor.ShowBack_holds
