/-
  Texts of this claim: PxTxt, PxLend, PxOpen.
-/
import Derived.Test.YtckbgeedlobfaaaGreatDoorY02
import Derived.Lib.FrozenHead2
import Derived.Laws.IdiomStrings
import Derived.Laws.OwnMore
import Derived.SliceStrings
namespace Go.Px
open Go.RowKit
abbrev Txt:=List UInt8
def BA (l:Txt):ByteArray:=⟨l.toArray⟩
def tx (s:ByteArray):Txt:=s.data.toList
theorem Zyi (s:ByteArray):BA (tx s)=s:=by cases s;simp[BA,tx]
theorem Zsg (l:Txt):tx (BA l)=l:=by simp[BA,tx]
theorem Zh1 (s:ByteArray):(tx s).length=s.size:=by cases s;rfl
theorem Zhf (l:Txt):(BA l).size=l.length:=by simp[BA,ByteArray.size]
theorem Znv (s t:ByteArray):tx (s++t)=tx s++tx t:=by unfold tx;rw[ByteArray.data_append];exact Array.toList_append
theorem Zsz (a b:Txt):BA a++BA b=BA (a++b):=by
 rw[←Zyi (BA a++BA b),Znv,Zsg,Zsg]
theorem Zve {a b:ByteArray}(h:tx a=tx b):a=b:=by rw[←Zyi a,←Zyi b,h]
def byC (l:Txt):List Value:=l.map fun b=> .int .u8 b.toNat
theorem Zu1 (l:Txt):(byC l).length=l.length:=by simp[byC]
theorem Zo2 (a b:Txt):byC (a++b)=byC a++byC b:=by simp[byC]
theorem Ztb (s:ByteArray):Lib.strCells s=byC (tx s):=rfl
theorem Zgb (P:Program)(g:Nat)(t:TypeId)(fz:Nat×Nat):∀(vs:List Value) (o:Nat) (i:Nat) (cur:Array Value) (w:World),w.heap[g]?=some (.cells cur t fz)→(fz.2≤o+i∨cur.size≤fz.1)→o+i+vs.length≤cur.size→(∀v∈vs,v.oneCell'=true) →
  (storeCells ⟨g,o,none⟩ vs i).run P w = .ok () (w.setRow g (cur.toList.take (o+i)++vs++cur.toList.drop (o+i+vs.length)).toArray)
 | [],o,i,cur,w,hg,_,_,_=>by
  simp only[storeCells,List.append_nil,List.length_nil,Nat.add_zero,List.take_append_drop,Array.toArray_toList]
  rw[setRow_self w g cur t fz hg]
  rfl
 | v::rest,o,i,cur,w,hg,hfz,hl,h1=>by
  have hi:o+i<cur.size:=by simp at hl;omega
  have hadd:(⟨g,o,none⟩:Addr).add i=⟨g,o+i,none⟩:=by unfold Addr.add;split<;>simp_all
  have hcell:w.cell? ⟨g,o+i,none⟩=some cur[o+i]:=by simp[World.cell?,hg,hi]
  have hfro:w.frozen? ⟨g,o+i,none⟩=false:=by
   obtain ⟨lo,hi2⟩:=fz
   simp only[World.frozen?,hg,Bool.and_eq_false_iff,decide_eq_false_iff_not]
   simp only at hfz
   rcases hfz with h|h
   ·right;omega
   ·left;omega
  have hst:(store ((⟨g,o,none⟩:Addr).add i) v).run P w = .ok () (w.setRow g (cur.setIfInBounds (o+i) v)):=by
   rw[hadd,run_store P w _ v _ (h1 v (by simp)),hcell]
   simp[hfro,setCell_eq_setRow w g (o+i) cur t fz v hg]
  have ih:=Zgb P g t fz rest o (i+1) (cur.setIfInBounds (o+i) v) (w.setRow g (cur.setIfInBounds (o+i) v)) (setRow_heap w g cur _ t _ hg) (by simp;omega) (by simp at hl ⊢;omega) (fun x hx=>h1 x (by simp[hx]))
  simp only[storeCells,Sem.run_bind,hst,Result.andThen_ok,ih,setRow_setRow]
  congr 3
  have e:=list_seg_step cur.toList (o+i) v rest (by simp at hl ⊢;omega)
  simpa[Array.toList_setIfInBounds,Nat.add_assoc]using e
def txtM (m:Bool)(e:TypeId)(a:Option Addr)(n c:Nat)(l:Txt):Ch where
 ok w F:=n=l.length∧((a=none∧n=0∧c=0)∨∃g cur fz,a=some ⟨g,0,none⟩∧F g∧w.heap[g]?=some (.cells cur e fz)∧(fz.2≤n∨(m=true∧cur.size≤fz.1))∧n≤c∧c≤maxLen∧cur.size=c∧cur.toList.take n=byC l)
 keep h hc hX hF:=by
  refine ⟨h.1,h.2.imp id ?_⟩
  rintro ⟨g,cur,fz,ha,hg,hw,r⟩
  have hlt:=(Array.getElem?_eq_some_iff.1 hw).1
  exact ⟨g,cur,fz,ha,hF g hlt hg,(hc.block g hlt (hX g hlt hg)).trans hw,r⟩
abbrev txtC:=txtM false
theorem ZZ135 (w:World)(m:Bool)(e:TypeId)(F:Nat→Prop):(txtM m e none 0 0 []).ok w F:=⟨rfl,Or.inl ⟨rfl,rfl,rfl⟩⟩
section
variable {G:Nat→Prop} {W w w':World} {L L':List Ch} {m:Bool}
theorem St.nilTxt (h:St G W w L)(e:TypeId):St G W w (L++[txtC e none 0 0 []]):=h.push (ZZ135 _ _ _ _)
theorem ZZ88 {e:TypeId}{a:Option Addr}{n c:Nat}{l:Txt}{F:Nat→Prop}(h:(txtM m e a n c l).ok w F):n=l.length∧n≤c∧c≤maxLen∧(a=none→n=0∧c=0):=by
 refine ⟨h.1,?_⟩
 rcases h.2 with ⟨ha,h1,h2⟩|⟨g,cur,fz,ha,_,_,_,hn,hm,_,_⟩
 ·subst h2;exact ⟨by omega,by simp[maxLen],fun _=>⟨h1,rfl⟩⟩
 ·exact ⟨hn,hm,fun h0=>by rw[ha]at h0;cases h0⟩
theorem St.txtSize (h:St G W w L)(k:Nat){e:TypeId}{a:Option Addr}{n c:Nat}{l:Txt}(hk:L[k]?=some (txtM m e a n c l)):n=l.length∧n≤c∧c≤maxLen∧(a=none→n=0∧c=0):=by
 obtain ⟨F,ho,_⟩:=h.get hk
 exact ZZ88 ho
theorem ZZ110 {P:Program}{e:TypeId}(hi:(P.info? e).map (fun i=>(i.zero,i.size,i.bytes))=some (some (.int .u8 0),1,1)):∃i,P.info? e=some i∧i.zero=some (.int .u8 0)∧i.size=1∧i.bytes=1:=by
 cases hq:P.info? e with
 | none=>rw[hq]at hi;cases hi
 | some i=>rw[hq]at hi;simp at hi;exact ⟨i,rfl,hi.1,hi.2.1,hi.2.2⟩
theorem Zsa {e:TypeId}{g n:Nat}{l:Txt}{cur:Array Value}{fz:Nat×Nat}(hw:w.heap[g]?=some (.cells cur e fz))(ht:cur.toList.take n=byC l):∀j u,(byC l)[j]?=some u→w.cell? ((⟨g,0,none⟩:Addr).add j)=some u:=by
 intro j u hu
 rw[Addr.add_lit,Nat.zero_add]
 simp only[World.cell?,hw]
 rw[←ht,List.getElem?_take]at hu
 split at hu
 ·simpa using hu
 ·cases hu
theorem ZZ231 {k:Nat}{e:TypeId}{a:Option Addr}{n c:Nat}{l new:Txt}{F:Nat→Prop}(ho:(txtM m e a n c l).ok w F)(hs:∀(w':World) (c:Ch),Chg F w w'→c.ok w' (fun i=>F i∨(w.heap.size≤i∧i<w'.heap.size))→St G W w' (L.set k c)){v':Value}
  (hown:w'.ownsRow w.heap.size e 1 v' (l.length+new.length) (byC l++byC new)) (hgr:w.grownBy w' none):∃a' cap,v' = .slice a' (l.length+new.length) cap∧St G W w' (L.set k (txtM m e a' (l.length+new.length) cap (l++new))):=by
 have hc:Chg F w w':=⟨hgr.os,hgr.tape,hgr.output,hgr.size,fun j hj hF=>hgr.block j hj (by simp)⟩
 rcases hown.2 with ⟨h1,h2⟩|⟨g,cap,cur,hv,hb,hg,hn,hm,hs1,ht⟩
 ·have:new=[]∧l=[]:=⟨List.length_eq_zero_iff.1 (by omega),List.length_eq_zero_iff.1 (by omega)⟩
  obtain ⟨rfl,rfl⟩:=this
  exact ⟨none,0,by rw[h1];rfl,hs w' _ hc ⟨by simp,Or.inl ⟨rfl,rfl,rfl⟩⟩⟩
 ·have hlt:=(Array.getElem?_eq_some_iff.1 hg).1
  exact ⟨_,cap,hv,hs w' _ hc ⟨by simp,Or.inr ⟨g,cur,(0,0),rfl,Or.inr ⟨hb,hlt⟩,hg,Or.inl (Nat.zero_le _),hn,hm,by simpa using hs1,by rw[Zo2];simpa using ht⟩⟩⟩
theorem ZZ89 {k:Nat}{e:TypeId}{g c:Nat}{l new:Txt}{F:Nat→Prop}{cur:Array Value}{fz:Nat×Nat}(hs:∀(w':World) (c:Ch),Chg F w w'→c.ok w' (fun i=>F i∨(w.heap.size≤i∧i<w'.heap.size))→St G W w' (L.set k c))
  (hF:F g) (hw:w.heap[g]?=some (.cells cur e fz)) (hfz:fz.2≤l.length∨(m=true∧cur.size≤fz.1)) (hroom:l.length+new.length≤c) (hc:c≤maxLen) (hcs:cur.size=c) (ht:cur.toList.take l.length=byC l) :
  St G W (w.setRow g (cur.toList.take l.length++byC new++cur.toList.drop (l.length+new.length)).toArray) (L.set k (txtM m e (some ⟨g,0,none⟩) (l.length+new.length) c (l++new))):=by
 have hlt:=(Array.getElem?_eq_some_iff.1 hw).1
 have hsz:(cur.toList.take l.length++byC new++cur.toList.drop (l.length+new.length)).toArray.size=cur.size:=by
  simp only[List.size_toArray,List.length_append,List.length_take,List.length_drop,Array.length_toList,Zu1]
  omega
 refine hs _ _ ⟨rfl,rfl,rfl,by simp,fun j hj hn=>setRow_other w g j _ fun e=>hn (by rw[e];exact hF)⟩ ⟨by simp,Or.inr ⟨g,_,fz,rfl,Or.inl hF,setRow_heap w g cur _ e _ hw,?_,hroom,hc,by rw[hsz,hcs],?_⟩⟩
 ·rw[hsz];exact hfz.imp (fun h=>by omega) id
 ·rw[ht,Zo2]
  have:l.length+new.length=(byC l++byC new).length:=by simp[Zu1]
  rw[this]
  exact List.take_left
theorem St.txtStr {P:Program}{X:Pan}{K:Value→World→Prop}(h:St G W w L)(k:Nat){t u ty e:TypeId}{a:Option Addr}{n c:Nat}{l:Txt}(hk:L[k]?=some (txtM m e a n c l))
  (ht:P.underlying t=some (.slice e)) (hu:P.underlying u=some .string) (hi:(P.info? e).map (fun i=>(i.zero,i.size,i.bytes))=some (some (.int .u8 0),1,1)) (s:ByteArray)
  (hb:l.length+s.size≤Zr)
  (hK:∀a' cap w',St G W w' (L.set k (txtM m e a' (l.length+s.size) cap (l++tx s)))→K (.slice a' (l.length+s.size) cap) w') :
  RES X ((Builtin.append_ #[t,u] ty #[.slice a n c,.string s]).run P w) K:=by
 obtain ⟨i,hi,hz,hs1,hb1⟩:=ZZ110 hi
 obtain ⟨F,ho,hF,hs⟩:=h.opn hk
 have hn:=ho.1
 have hlen:(tx s).length=s.size:=Zh1 s
 have hm:l.length+s.size≤maxLen:=by unfold Zr at hb;unfold maxLen;omega
 have hbb:l.length+s.size≤140737488355328:=hb
 subst hn
 have fin:∀v' w',((Builtin.append_ #[t,u] ty #[.slice a l.length c,.string s]).run P w = .ok v' w')→w'.ownsRow w.heap.size e 1 v' (l.length+s.size) (byC l++byC (tx s))→w.grownBy w' none →
   RES X ((Builtin.append_ #[t,u] ty #[.slice a l.length c,.string s]).run P w) K:=by
  intro v' w' hrun hown hgr
  rw[hrun,Zb9]
  rw[←hlen]at hown
  obtain ⟨a',cap,rfl,hst⟩:=ZZ231 ho hs hown hgr
  rw[hlen]at hst ⊢
  exact hK a' cap w' hst
 rcases ho.2 with ⟨rfl,h0,rfl⟩|⟨g,cur,fz,rfl,hFg,hg,hfz,hnc,hcm,hcs,htake⟩
 ·have hl0:l=[]:=List.length_eq_zero_iff.1 h0
  subst hl0
  obtain ⟨v',w',h1,h2,h3,h4⟩:=Lib.run_append_own_string (P:=P) w w.heap.size t u ty e i ht hu hi hz hs1 hb1 (.slice none 0 0) 0 [] ⟨by simp,.inl ⟨rfl,rfl⟩⟩ s (by simpa using hm) (by simpa using hbb) (Nat.le_refl _)
  exact fin v' w' h1 h2 h3
 ·have hxl:(byC l).length=l.length:=Zu1 l
  have hl2:(byC l++Lib.strCells s).length=(l.length+s.size)*1:=by rw[List.length_append,hxl,Lib.strCells_length,Nat.mul_one]
  by_cases hroom:l.length+s.size≤c
  ·have hf:=Lib.run_firstCells_string (P:=P) w 1 s
   have hst:=Zgb P g e fz (Lib.strCells s) l.length 0 cur w hg (by rcases hfz with h | h;exact Or.inl h;exact Or.inr h.2) (by simp[Lib.strCells_length];omega) (Lib.strCells_oneCell s)
   simp only[Nat.add_zero,Lib.strCells_length]at hst
   have hr:(Builtin.append_ #[t,u] ty #[.slice (some ⟨g,0,none⟩) l.length c,.string s]).run P w = .ok (.slice (some ⟨g,0,none⟩) (l.length+s.size) c) (w.setRow g (cur.toList.take l.length++Lib.strCells s++cur.toList.drop (l.length+s.size)).toArray):=by
    simp[Builtin.append_,run_underlying ht,run_underlying hu,sizeOf,typeInfo,hi,hs1,Builtin.lenOf,hroom,hf,Addr.add_lit,hst]
   rw[hr,Zb9]
   refine hK _ _ _ ?_
   have:=ZZ89 (m:=m) (k:=k) (new:=tx s) hs hFg hg hfz (by rw[hlen];exact hroom) hcm hcs htake
   rw[hlen]at this
   exact this
  ·have hr:=Lib.run_append_grow_string (P:=P) w t u ty e i (.int .u8 0) ht hu hi hz ⟨g,0,none⟩ l.length c (byC l) (by rw[hs1];simpa using hxl) (Zsa hg htake) s (by omega) (by unfold maxLen at hm;omega) (by rw[hb1];exact growslice_fits (by omega) (by omega))
   have hge:=grownCap_ge w (l.length+s.size) c e
   have hcm2:grownCap w (l.length+s.size) c e≤maxLen:=grownCap_le_maxLen w (l.length+s.size) c e hm
   refine fin _ _ hr ⟨hl2,.inr ⟨w.heap.size,_,_,rfl,Nat.le_refl _,heap_alloc_new w.drew _,hge,hcm2,?_,?_⟩⟩ ⟨rfl,rfl,rfl,by simp,fun k hk _=>Go.heap_alloc_old w.drew _ hk⟩
   ·have hz1:(Value.int IntKind.u8 0).cells.size=1:=rfl
    simp only[Array.size_append,List.size_toArray,size_zeroCells,hz1,hxl,Lib.strCells_length]
    omega
   ·simp only[Array.toList_append,List.append_assoc]
    rw[←List.append_assoc,←Ztb,←hl2]
    exact List.take_left
end
end Go.Px
namespace Go.Px
open Go.RowKit
def Zhh (F:Nat→Prop)(w:World)(c:Ch)(w':World):Prop:=Chg F w w'∧c.ok w' (fun i=>F i∨(w.heap.size≤i∧i<w'.heap.size))
theorem Zhh.of_st {F:Nat→Prop}{w w':World}{L:List Ch}{c:Ch}(h:St F w w' L)(hc:∀F',Zhd L w' F'→c.ok w' F'):Zhh F w c w':=⟨h.chg,hc _ h.leave⟩
open Classical in
theorem St.one {F:Nat→Prop}{w:World}{c:Ch}(h:c.ok w F):St F w w [c]:=St.enter ⟨fun i=>if F i∧i<w.heap.size then 1 else 0,fun i hi=>by
  by_cases e:F i∧i<w.heap.size
  ·exact e
  ·dsimp only at hi;rw[if_neg e]at hi;exact absurd rfl hi,fun k d hk=>by
  match k,hk with
  | 0,hk=>injection hk with hk;subst hk;exact c.keep h (Chg.refl noB _) (fun _ _ _=>id) fun i h1 h2=>by simp[h1,h2]
  | k+1,hk=>simp at hk⟩
theorem St.oneDone {F:Nat→Prop}{w w':World}{c:Ch}{L:List Ch}(h:St F w w' (c::L)):Zhh F w c w':=by
 obtain ⟨T,hT,hk⟩:=h.leave
 exact ⟨h.chg,c.keep (hk 0 _ rfl) (Chg.refl noB _) (fun _ _ _=>id) fun i _ e=>(hT i (by omega)).1⟩
section
variable {G:Nat→Prop} {W w w1:World} {L:List Ch}
theorem Zde {P:Program}{X:Pan}{f:FuncId}{args:Array Value}{K:Value→World→Prop}(h:St G W w L)(k:Nat){c0:Ch}(hk:L[k]?=some c0){S:Value→World→(Nat→Prop)→Prop}
  (hct:∀F,c0.ok w F→(∀i,F i→i<w.heap.size∧(i<W.heap.size→G i))→Ct P f args w fun v w'=>S v w' F) (hK:∀F v w',S v w' F→(∀c,Zhh F w c w'→St G W w' (L.set k c))→K v w'):CALL P X f args w K:=by
 obtain ⟨F,ho,hF,hs⟩:=h.opn hk
 exact Zf (hct F ho hF) fun v w' hS=>hK F v w' hS fun c hc=>hs w' c hc.1 hc.2
theorem Zgg {P:Program}{X:Pan}{f:FuncId}{args:Array Value}{K:Value→World→Prop}(h:St G W w1 L)(hn:Chg noB w1 w)(k:Nat){c0:Ch}(hk:L[k]?=some c0){S:Value→World→(Nat→Prop)→Prop}
  (hct:∀F,c0.ok w F→(∀i,F i→i<w1.heap.size∧(i<W.heap.size→G i))→Ct P f args w fun v w'=>S v w' F) (hK:∀F v w',S v w' F→(∀c,Zhh F w c w'→St G W w' (L.set k c))→K v w'):CALL P X f args w K:=by
 obtain ⟨F,ho,hF,hs⟩:=h.opn hk
 refine Zf (hct F (c0.keep ho hn (fun _ _ _=>id) fun _ _ e=>e) hF) fun v w' hS=>hK F v w' hS fun c hc=>hs w' c ((hn.mono fun i _ (e:noB i)=>e.elim).trans' hc.1 fun _ _ e=>e) (c.keep (X:=noB) hc.2 (Chg.refl _ _) (fun _ _ _=>id) fun i hi e=>?_)
 rcases e with e|e
 ·exact Or.inl e
 ·exact Or.inr ⟨by have:=hn.size;omega,e.2⟩
end
theorem Zm4 {α:Type}{r:Rep α}{enc:α→List Value}{w:World}{q:Nat}{e:TypeId}{fz:Nat×Nat}{l:List α}{cs:Array Value}(hq:w.heap[q]?=some (.cells cs e fz))(hcs:cs.toList=l.flatMap enc)(hr:∀x∈l,r.ok w (q+1) (enc x) x)(hl:l.length≤maxLen) :
  (Zo r).at1 w (q+1) (.slice (some ⟨q,0,none⟩) l.length l.length) l:=by
 refine ⟨_,_,rfl,Nat.le_refl _,hl,trivial,fun _=>⟨q,0,rfl,by omega,fun i x hi=>⟨enc x,hr x (List.mem_of_getElem? hi),fun j u hj=>?_⟩⟩⟩
 have hs:∀x∈l,(enc x).length=r.size:=fun x hx=>r.len (hr x hx)
 have hj2:j<r.size:=by rw[←hs x (List.mem_of_getElem? hi)];exact (List.getElem?_eq_some_iff.1 hj).1
 have h1:=Zna hs hi hj2
 rw[hj,←hcs]at h1
 simp only[World.cell?,hq,Nat.zero_add]
 simpa using h1
theorem Zod {w w1:World}{X:Nat→Prop}{s:ByteArray}{e:TypeId}(hX:∀i,X i→i<w.heap.size)(hs:s.size≤maxLen)(hc:Chg X (w.alloc (.cells #[.string s] e)) w1):(Zo rStr).at1 w1 (w.heap.size+1) (.slice (some ⟨w.heap.size,0,none⟩) 1 1) [s]:=by
 refine Zm4 (l:=[s]) (enc:=fun s=>[.string s]) ((hc.block _ (by simp) fun h=>by have:=hX _ h;omega).trans (World.alloc_heap_new w _)) rfl (fun x hx=>?_) (by simp[maxLen])
 simp at hx;subst hx;exact ⟨rfl,hs⟩
theorem Zzc {w w1:World}{X:Nat→Prop}{s:Int}{e:TypeId}(hX:∀i,X i→i<w.heap.size)(hs:Zz s)(hc:Chg X (w.alloc (.cells #[.int .i64 s] e)) w1):(Zo rInt).at1 w1 (w.heap.size+1) (.slice (some ⟨w.heap.size,0,none⟩) 1 1) [s]:=by
 refine Zm4 (l:=[s]) (enc:=fun s=>[.int .i64 s]) ((hc.block _ (by simp) fun h=>by have:=hX _ h;omega).trans (World.alloc_heap_new w _)) rfl (fun x hx=>?_) (by simp[maxLen])
 simp at hx;subst hx;exact ⟨rfl,hs⟩
section
variable {G:Nat→Prop} {W w:World} {L:List Ch}
theorem Zmx {α:Type}{enc:α→List Value}{size:Nat}:∀l:List α,(∀x∈l,(enc x).length=size)→(l.flatMap enc).length=l.length*size
 | [],_=>by simp
 | x::t,h=>by rw[List.flatMap_cons,List.length_append,h x (by simp),Zmx t fun y hy=>h y (by simp[hy]),List.length_cons,Nat.succ_mul];omega
theorem St.appendRd {α:Type}{r:Rep α}{enc:α→List Value}{P:Program}{X:Pan}{K:Value→World→Prop}(h:St G W w L)(k:Nat){t ty e:TypeId}{z:Value}{bytes:Nat}{a0:Option Addr}{n c:Nat}{xs:List Value}(hk:L[k]?=some (rowC e r.size a0 n c xs))
  (ht:P.underlying t=some (.slice e)) (hi:(P.info? e).map (fun i=>(i.zero,i.size,i.bytes))=some (some z,r.size,bytes)) (hzs:z.cells.size=r.size) (hsz:0<r.size)
  {A:Option Addr} {c1 B:Nat} {l:List α} (hr:(Zo r).at1 w B (.slice A l.length c1) l) (henc:∀{ys x},r.ok w B ys x→x∈l→ys=enc x) (hone:∀x∈l,∀u∈enc x,u.oneCell'=true) (hlen:∀x∈l,(enc x).length=r.size)
  (h63:n+l.length≤maxLen) (hbytes:(n+l.length)*bytes≤Zr)
  (hK:∀a' cap w',St G W w' (L.set k (rowC e r.size a' (n+l.length) cap (xs++l.flatMap enc)))→K (.slice a' (n+l.length) cap) w') :
  RES X ((Builtin.append_ #[t,t] ty #[.slice a0 n c,.slice A l.length c1]).run P w) K:=by
 cases A with
 | none=>
  have hl:l=[]:=by
   obtain ⟨A',c',hv,h1,h2,h3,h4⟩:=hr
   rcases Nat.eq_zero_or_pos l.length with h0|h0
   ·exact List.eq_nil_of_length_eq_zero h0
   ·obtain ⟨b,o,e,_⟩:=h4 h0
    injection hv with hv;injection hv with hA;rw[e]at hA;cases hA
  subst hl
  obtain ⟨i,hi',hz,hs1,hb1⟩:∃i,P.info? e=some i∧i.zero=some z∧i.size=r.size∧i.bytes=bytes:=by
   cases hq:P.info? e with
   | none=>rw[hq]at hi;cases hi
   | some i=>rw[hq]at hi;simp at hi;exact ⟨i,rfl,hi.1,hi.2.1,hi.2.2⟩
  obtain ⟨F,ho,_⟩:=h.get hk
  have hrun:(Builtin.append_ #[t,t] ty #[.slice a0 n c,.slice none 0 c1]).run P w = .ok (.slice a0 n c) w:=by
   rcases ho.1.2 with ⟨h1,rfl⟩|⟨g,cap,cur,h1,_,_,hnc,_⟩
   ·injection h1 with h1 h2 h3;subst h1 h3
    simp[Builtin.append_,run_underlying ht,sizeOf,typeInfo,hi',Builtin.lenOf,Builtin.firstCells]
   ·injection h1 with h1 h2 h3;subst h1 h3
    simp[Builtin.append_,run_underlying ht,sizeOf,typeInfo,hi',Builtin.lenOf,Builtin.firstCells,hnc,storeCells]
  rw[List.length_nil,hrun,Zb9]
  exact hK a0 c w (h.turn hk fun F hf=>by simpa using hf)
 | some a=>
  refine h.appendN k hk ht hi hzs hsz (Zmx l hlen) (fun j u hj=>?_) (fun u hu=>?_) h63 hbytes fun a' cap w' h' _=>hK a' cap w' h'
  ·have hlen':=Zmx l hlen
   have hjl:j<l.length*r.size:=by rw[←hlen'];exact (List.getElem?_eq_some_iff.1 hj).1
   have hi2:j / r.size<l.length:=(Nat.div_lt_iff_lt_mul hsz).2 hjl
   have hm:j % r.size<r.size:=Nat.mod_lt _ hsz
   have hdm:j / r.size*r.size+j % r.size=j:=by rw[Nat.mul_comm];exact Nat.div_add_mod j r.size
   obtain ⟨b',o',ys,hA,hb,hok,hc⟩:=Zj5 hr hi2
   injection hA with hA;subst hA
   have hy:=henc hok (List.getElem_mem hi2)
   have hf:=Zna hlen (List.getElem?_eq_getElem hi2) hm
   rw[hdm,hj]at hf
   have:=hc (j % r.size) u (by rw[hy];exact hf.symm)
   rw[Addr.add_lit,show o'+j=o'+(j / r.size*r.size+j % r.size) by omega]
   exact this
  ·obtain ⟨x,hx,hu⟩:=List.mem_flatMap.1 hu
   exact hone x hx u hu
end
end Go.Px
namespace Go.Px
open Go.ChangeShapes Go.WideShapes Go.ChangeAt Go.RowKit
structure Zvt {H:Type}(ub:DataW H→Nat)(uba:List (DataW H)→Nat):Prop where
 str:∀b,ub (.lit (.string b))=b.length+1
 lit:∀l,1≤ub (.lit l)
 nil:1≤ub .nil
 slice:∀e s,ub (.slice e s)=uba e+uba s+1
 agg:∀p,ub (.agg p)=uba p+1
 all0:uba []=0
 allc:∀d r,uba (d::r)=ub d+uba r
def Zph {H:Type}(n:Nat)(d:DataW H):Prop:=∀(ub:DataW H→Nat) (uba:List (DataW H)→Nat),Zvt ub uba→n≤ub d
def ZZ272 {H:Type}(n:Nat)(d:List (DataW H)):Prop:=∀(ub:DataW H→Nat) (uba:List (DataW H)→Nat),Zvt ub uba→n≤uba d
def Zhi {α:Type}(P:Program)(t:TypeId)(r:Rep α):Prop :=
 P.cellsOf t=r.size∧P.bytesOf t=r.bytes∧∀{H:Type} (enc:TypeId×Value→H) (W:World) (base:Nat) (sp:Nat→Bool) (held:Bool) (fuel:Nat) (cs:List Value) (x:DataW H×List MemPlace),
  DataW.trod enc P W base sp held fuel t cs=some x→∃a,r.ok W W.heap.size cs a∧((x.1.weights P t).all (·≤reachBytes)=true→r.fit a)∧Zph (r.bulk a) x.1
section
variable {P:Program} {t:TypeId}
theorem Zxv (ht:P.underlying t=some (.int .i64))(hc:P.cellsOf t=1)(hb:P.bytesOf t=8):Zhi P t rInt:=by
 refine ⟨hc,hb,fun enc W base sp held fuel cs x h=>?_⟩
 obtain ⟨n,rfl,rfl,hw⟩:=DataW.trod_int ht h
 refine ⟨n,⟨rfl,?_⟩,fun _=>trivial,fun ub uba hb=>by subst_vars;exact hb.lit _⟩
 simp[Lit.wf]at hw
 unfold Zz
 have hm:IntKind.i64.min = -9223372036854775808:=by decide
 rw[hm]at hw
 exact hw
theorem Zze (ht:P.underlying t=some .string)(hc:P.cellsOf t=1)(hb:P.bytesOf t=16):Zhi P t rStr:=by
 refine ⟨hc,hb,fun enc W base sp held fuel cs x h=>?_⟩
 obtain ⟨s,rfl,rfl,hs⟩:=DataW.trod_string ht h
 refine ⟨s,⟨rfl,hs⟩,fun hw=>?_,fun ub uba hb=>by rw[hb.str];simp[rStr]⟩
 have:s.size≤reachBytes:=by simpa[DataW.weights]using hw
 exact this
theorem Zm6 {P:Program}{e:TypeId}{H:Type}:∀{l:List (DataW H)} {d:DataW H},(DataW.weightsAll P e l).all (·≤reachBytes)=true→d∈l→(d.weights P e).all (·≤reachBytes)=true
 | [],_,_,h=>by cases h
 | x::l,d,hw,h=>by
  simp only[DataW.weightsAll,List.all_append,Bool.and_eq_true]at hw
  rcases List.mem_cons.1 h with rfl|h
  ·exact hw.1
  ·exact Zm6 hw.2 h
theorem Zvy {α H:Type}{bk:α→Nat}{ub:DataW H→Nat}{uba:List (DataW H)→Nat}(hb:Zvt ub uba):∀{l:List α} {ds:List (DataW H)},l.length=ds.length→(∀(i:Nat) (y:α) (d:DataW H),l[i]?=some y→ds[i]?=some d→Zph (bk y) d)→(l.map bk).sum≤uba ds
 | [],_,_,_=>by simp
 | y::l,[],h,_=>by simp at h
 | y::l,d::ds,h,hd=>by
  rw[hb.allc,List.map_cons,List.sum_cons]
  have h1:=hd 0 y d rfl rfl ub uba hb
  have h2:=Zvy hb (l:=l) (ds:=ds) (bk:=bk) (by simpa using h) fun i y d hy hd'=>hd (i+1) y d (by simpa using hy) (by simpa using hd')
  omega
theorem Zhg {α:Type}{r:Rep α}{e:TypeId}(ht:P.underlying t=some (.slice e))(hc:P.cellsOf t=1)(hb:P.bytesOf t=24)(hpos:0<r.size)(he:Zhi P e r):Zhi P t (Zo r):=by
 refine ⟨hc,hb,fun enc W base sp held fuel cs x h=>?_⟩
 rcases DataW.trod_slice ht h with ⟨rfl,rfl⟩|⟨a,len,cap,elems,rest,n,_,rfl,rfl,_,hl,hm,hlen,hel,_,_⟩
 ·exact ⟨[],⟨none,0,rfl,by simp,by simp[maxLen],trivial,fun h=>by simp at h⟩,fun _=>⟨by simp,by simp⟩,fun ub uba hb=>hb.nil⟩
 ·have each:∀i,i<len→∃y,(∀z,elems[i]?=some z→((z.1.weights P e).all (·≤reachBytes)=true→r.fit y)∧Zph (r.bulk y) z.1)∧∃ys,r.ok W W.heap.size ys y∧∀j u,ys[j]?=some u→W.cell? (a.add (i*r.size+j))=some u:=by
   intro i hi
   have h1:=hel i hi
   rw[List.getElem?_eq_getElem (by omega),Option.bind_eq_some_iff]at h1
   obtain ⟨cs',hcs,hy⟩:=h1
   obtain ⟨y,hy,hfit,hbk⟩:=he.2.2 enc W base sp held n cs' _ hy
   obtain ⟨_,hlen',hcell⟩:=World.cells?_some hcs
   refine ⟨y,fun z hz=>by rw[List.getElem?_eq_getElem (by omega)]at hz;cases hz;exact ⟨hfit,hbk⟩,cs',hy,fun j u hj=>?_⟩
   have hjl:=(List.getElem?_eq_some_iff.1 hj).1
   have h2:=hcell j (by omega)
   rw[hj,he.1]at h2
   rw[←h2]
   congr 1
   unfold Addr.add
   by_cases h0:i*r.size=0
   ·rw[h0];simp
   ·by_cases hj0:j=0
    ·subst hj0;simp[h0]
    ·          simp[h0,hj0,Nat.add_assoc]
  have mk:∀n,n≤len→∃l:List α,l.length=n∧∀i y,l[i]?=some y→(∀z,elems[i]?=some z→((z.1.weights P e).all (·≤reachBytes)=true→r.fit y)∧Zph (r.bulk y) z.1)∧∃ys,r.ok W W.heap.size ys y∧∀j u,ys[j]?=some u→W.cell? (a.add (i*r.size+j))=some u:=by
   intro n
   induction n with
   | zero=>exact fun _=>⟨[],rfl,fun i y h=>by simp at h⟩
   | succ n ih=>
    intro hn
    obtain ⟨l,hll,hl'⟩:=ih (by omega)
    obtain ⟨y,hy⟩:=each n (by omega)
    refine ⟨l++[y],by simp[hll],fun i z hz=>?_⟩
    by_cases hi:i<l.length
    ·rw[List.getElem?_append_left hi]at hz;exact hl' i z hz
    ·rw[List.getElem?_append_right (by omega)]at hz
     have hi0:i-l.length=0:=by
      have:=(List.getElem?_eq_some_iff.1 hz).1
      simp at this;omega
     rw[hi0]at hz
     simp at hz
     subst hz
     have:i=n:=by omega
     subst this
     exact hy
  obtain ⟨l,hll,hl'⟩:=mk len (Nat.le_refl _)
  refine ⟨l,⟨some a,cap,by rw[hll],by omega,hm,trivial,fun hpos'=>?_⟩,fun hw=>?_,fun ub uba hb=>?_⟩
  case refine_3=>
   rw[hb.slice]
   have hsum:(l.map r.bulk).sum≤uba (elems.map (·.1)):=Zvy hb (by simp;omega) fun i y z hy hz=>by
    rw[List.getElem?_map,Option.map_eq_some_iff]at hz
    obtain ⟨z',hz',rfl⟩:=hz
    exact ((hl' i y hy).1 z' hz').2
   show (l.map r.bulk).sum+1≤_
   omega
  case refine_2=>
   simp only[DataW.weights,ht,List.all_cons,List.all_append,Bool.and_eq_true,decide_eq_true_eq,List.length_map]at hw
   refine ⟨?_,fun x hx=>?_⟩
   ·have h1:=hw.1
    rw[he.2.1]at h1
    refine Nat.le_trans (Nat.mul_le_mul_right _ ?_) h1
    omega
   ·obtain ⟨i,hi⟩:=List.getElem?_of_mem hx
    have hil:=(List.getElem?_eq_some_iff.1 hi).1
    refine ((hl' i x hi).1 elems[i] (List.getElem?_eq_getElem (by omega))).1 ?_
    exact Zm6 hw.2.1 (List.mem_map_of_mem (List.getElem_mem _))
  have h0:=hl' 0 l[0] (List.getElem?_eq_getElem hpos')
  obtain ⟨_,ys,hok,hcell⟩:=h0
  have hylen:=r.len hok
  have hc0:=hcell 0 ys[0] (List.getElem?_eq_getElem (by omega))
  have ha:a=⟨a.block,a.off,none⟩:=by
   simp[Addr.add]at hc0
   unfold World.cell? at hc0
   split at hc0
   ·split at hc0
    ·cases hc0
    ·rename_i hsp
     cases a with
     | mk b o s=>cases s with
      | none=>rfl
      | some s=>simp at hsp
   ·cases hc0
  have hblk:=World.block_lt_of_cell? W _ hc0
  refine ⟨a.block,a.off,by rw[←ha],?_,fun i y hi=>?_⟩
  ·rw[ha]at hblk
   simpa[Addr.add]using hblk
  ·obtain ⟨_,ys,hok,hcell⟩:=hl' i y hi
   refine ⟨ys,hok,fun j u hj=>?_⟩
   have:=hcell j u hj
   rw[ha,Addr.add_lit]at this
   exact this
def Zu7 {α:Type}(P:Program)(fs:List Field)(off:Nat)(r:Rep α):Prop:=∀(H:Type) (enc:TypeId×Value→H) (W:World) (base:Nat) (sp:Nat→Bool) (held:Bool) (n:Nat) (cs:List Value) (xs:List (DataW H×List MemPlace)),
 cs.length=off+r.size→xs.length=fs.length→(∀(i:Nat) (f:Field),fs[i]?=some f→DataW.trod enc P W base sp held n f.type ((cs.drop f.offset).take (P.cellsOf f.type))=xs[i]?)→∃a,r.ok W W.heap.size (cs.drop off) a∧((DataW.weightsEach P (fs.map (·.type)) (xs.map (·.1))).all (·≤reachBytes)=true→r.fit a)∧ZZ272 (r.bulk a) (xs.map (·.1))
theorem Zlg {α:Type}{r:Rep α}{f:Field}(hf:Zhi P f.type r):Zu7 P [f] f.offset r:=by
 intro H enc W base sp held n cs xs hl hxs h
 have h0:=h 0 f rfl
 rw[List.getElem?_eq_getElem (by rw[hxs];simp)]at h0
 obtain ⟨a,ha,hfit,hbk⟩:=hf.2.2 enc W base sp held n _ _ h0
 rw[hf.1,List.take_of_length_le (by simp;omega)]at ha
 refine ⟨a,ha,fun hw=>hfit ?_,fun ub uba hb=>?_⟩
 case refine_2=>
  cases xs with
  | nil=>simp at hxs
  | cons y ys=>
   have:=hbk ub uba hb
   simp only[List.map_cons,hb.allc]
   simp only[List.getElem_cons_zero]at this
   omega
 cases xs with
 | nil=>simp at hxs
 | cons y ys=>
  simp only[List.map_cons,DataW.weightsEach,List.all_append,Bool.and_eq_true]at hw
  exact hw.1
theorem Zen {α β:Type}{r:Rep α}{s:Rep β}{f:Field}{fs:List Field}(hf:Zhi P f.type r)(hfs:Zu7 P fs (f.offset+r.size) s):Zu7 P (f::fs) f.offset (r.prod s):=by
 intro H enc W base sp held n cs xs hl hxs h
 have hrs:(r.prod s).size=r.size+s.size:=rfl
 have h0:=h 0 f rfl
 rw[List.getElem?_eq_getElem (by rw[hxs];simp)]at h0
 obtain ⟨a,ha,hfit,hbk⟩:=hf.2.2 enc W base sp held n _ _ h0
 rw[hf.1]at ha
 obtain ⟨b,hb,hfit',hbk'⟩:=hfs H enc W base sp held n cs xs.tail (by omega) (by simp[hxs]) (fun i g hg=>by
  have:=h (i+1) g (by simpa using hg)
  rw[this];simp)
 refine ⟨(a,b),⟨_,_,?_,ha,hb⟩,fun hw=>?_,fun ub uba hu=>?_⟩
 case refine_3=>
  cases xs with
  | nil=>simp at hxs
  | cons y ys=>
   have h1:=hbk ub uba hu
   have h2:=hbk' ub uba hu
   simp only[List.map_cons,hu.allc]
   simp only[List.getElem_cons_zero,List.tail_cons]at h1 h2
   show r.bulk a+s.bulk b≤_
   omega
 case refine_2=>
  cases xs with
  | nil=>simp at hxs
  | cons y ys=>
   simp only[List.map_cons,DataW.weightsEach,List.all_append,Bool.and_eq_true]at hw
   exact ⟨hfit hw.1,hfit' hw.2⟩
 rw[show cs.drop (f.offset+r.size)=(cs.drop f.offset).drop r.size by rw[List.drop_drop]]
 exact (List.take_append_drop _ _).symm
theorem Zh8 {α:Type}{r:Rep α}{fs:Array Field}(ht:P.underlying t=some (.struct fs))(hc:P.cellsOf t=r.size)(hb:P.bytesOf t=r.bytes)(hfs:Zu7 P fs.toList 0 r):Zhi P t r:=by
 refine ⟨hc,hb,fun enc W base sp held fuel cs x h=>?_⟩
 obtain ⟨xs,n,_,rfl,hl,hxs,hf⟩:=DataW.trod_struct ht h
 obtain ⟨a,ha,hfit,hbk⟩:=hfs _ enc W base sp held n cs xs (by omega) (by simpa using hxs) (fun i f hi=>hf i f (by simpa using hi))
 refine ⟨a,by simpa using ha,fun hw=>hfit ?_,fun ub uba hb=>by have:=hbk ub uba hb;rw[hb.agg];omega⟩
 simpa[DataW.weights,ht]using hw
theorem ZZ44 {α β:Type}{r:Rep α}{f:β→α}{g:α→β}(hg:∀a,f (g a)=a)(h:Zhi P t r):Zhi P t (r.map f):=by
 refine ⟨h.1,h.2.1,fun enc W base sp held fuel cs x hx=>?_⟩
 obtain ⟨a,ha,hf,hb⟩:=h.2.2 enc W base sp held fuel cs x hx
 exact ⟨g a,by show r.ok _ _ _ _;rw[hg];exact ha,fun hw=>by show r.fit _;rw[hg];exact hf hw,by show Zph (r.bulk (f (g a))) _;rw[hg];exact hb⟩
theorem Zyu {α:Type}{r:Rep α}{H:Type}{enc:TypeId×Value→H}{W:World}{base:Nat}{sp:Nat→Bool}{held:Bool}{v:Value}{d:DataW H}{ps:List MemPlace}{cs:Array Value}(ho:Zhi P t r)(hv:v = .agg cs)(h:DataW.Trod enc P W base sp held t v d ps) :
  ∃a,r.atN W W.heap.size v a∧((d.weights P t).all (·≤reachBytes)=true→r.fit a)∧Zph (r.bulk a) d:=by
 obtain ⟨fuel,hf⟩:=h
 subst hv
 obtain ⟨a,ha,hfit,hbk⟩:=ho.2.2 enc W base sp held fuel _ _ hf
 exact ⟨a,⟨cs.toList,by simp,ha⟩,hfit,hbk⟩
end
end Go.Px
