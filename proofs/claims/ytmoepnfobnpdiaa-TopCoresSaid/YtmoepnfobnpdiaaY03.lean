/-
  Texts of this claim: PxTxt, PxLend, PxMapV, PxGrp, PxGroup.
-/
import Derived.Test.YtmoepnfobnpdiaaY02
import Derived.Lib.FrozenHead2
import Derived.Laws.IdiomStrings
import Derived.Laws.OwnMore
import Derived.Maps.Range
/-
  Texts that grow, in pieces.
-/
namespace Go.Px
open Go.RowKit

/-- A text. -/
abbrev Txt:=List UInt8
def BA (l:Txt):ByteArray:=⟨l.toArray⟩
def tx (s:ByteArray):Txt:=s.data.toList
theorem tx_BA (l:Txt):tx (BA l)=l:=by simp [BA,tx]
theorem BA_size (l:Txt):(BA l).size=l.length:=by simp [BA,ByteArray.size]
theorem BA_inj {a b:Txt} (h:BA a=BA b):a=b:=by rw [←tx_BA a,←tx_BA b,h]
def byC (l:Txt):List Value:=l.map fun b => .int .u8 b.toNat
theorem byC_len (l:Txt):(byC l).length=l.length:=by simp [byC]
theorem byC_append (a b:Txt):byC (a++b)=byC a++byC b:=by simp [byC]

/-- A text that is owned: it may grow; its head may be frozen (m: a mark behind its last cell). -/
def txtM (m:Bool) (e:TypeId) (a:Option Addr) (n c:Nat) (l:Txt):Ch where
 ok w F:=n=l.length∧((a=none∧n=0∧c=0)∨∃g cur fz,a=some ⟨g,0,none⟩∧F g∧w.heap[g]?=some (.cells cur e fz)∧(fz.2≤n∨(m=true∧cur.size≤fz.1))∧n≤c∧c≤maxLen∧cur.size=c∧cur.toList.take n=byC l)
 keep h hc hX hF:=by
  refine ⟨h.1,h.2.imp id ?_⟩
  rintro ⟨g,cur,fz,ha,hg,hw,r⟩
  have hlt:=(Array.getElem?_eq_some_iff.1 hw).1
  exact ⟨g,cur,fz,ha,hF g hlt hg,(hc.block g hlt (hX g hlt hg)).trans hw,r⟩
abbrev txtC:=txtM false

section
variable {G:Nat→Prop} {W w w':World} {L L':List Ch} {m:Bool}

theorem txt_cells {e:TypeId} {g n:Nat} {l:Txt} {cur:Array Value} {fz:Nat×Nat} (hw:w.heap[g]?=some (.cells cur e fz)) (ht:cur.toList.take n=byC l):∀j u,(byC l)[j]?=some u→w.cell? ((⟨g,0,none⟩:Addr).add j)=some u:=by
 intro j u hu
 rw [Addr.add_lit,Nat.zero_add]
 simp only [World.cell?,hw]
 rw [←ht,List.getElem?_take] at hu
 split at hu
 ·simpa using hu
 ·cases hu

/-- A text as a string. -/
theorem St.txtConv {P:Program} (h:St G W w L) (k:Nat) {t u e:TypeId} {a:Option Addr} {n c:Nat} {l:Txt} (hk:L[k]?=some (txtM m e a n c l)) (ht:P.underlying t=some (.slice e)) (he:P.underlying e=some (.int .u8)) (hu:P.underlying u=some .string) :
  (convert t u (.slice a n c)).run P w = .ok (.string (BA l)) w:=by
 obtain ⟨F,ho,_⟩:=h.get hk
 have hn:=ho.1
 subst hn
 rcases ho.2 with ⟨rfl,h0,rfl⟩ | ⟨g,cur,fz,rfl,hFg,hg,hfz,hnc,hcm,hcs,htake⟩
 ·have:l=[]:=List.length_eq_zero_iff.1 h0
  subst this
  rw [run_convert_bytes_string w t u e none _ _ ht he hu]
  rfl
 ·refine run_convert_bytes_back w t u e ⟨g,0,none⟩ c l ht he hu fun j hj=>?_
  exact txt_cells hg htake j _ (by simp [byC,hj])

end
end Go.Px

/-
  Calls that are given a piece and a list that was laid down just ahead.
-/
namespace Go.Px
open Go.RowKit
open Classical in
/-- One piece alone. -/
theorem St.one {F:Nat→Prop} {w:World} {c:Ch} (h:c.ok w F):St F w w [c]:=St.enter ⟨fun i=>if F i∧i<w.heap.size then 1 else 0,fun i hi=>by
  by_cases e:F i∧i<w.heap.size
  ·exact e
  ·dsimp only at hi;rw [if_neg e] at hi;exact absurd rfl hi,fun k d hk=>by
  match k,hk with
  | 0,hk=>injection hk with hk;subst hk;exact c.keep h (Chg.refl noB _) (fun _ _ _=>id) fun i h1 h2=>by simp [h1,h2]
  | k+1,hk=>simp at hk⟩
section
variable {G:Nat→Prop} {W w w1:World} {L:List Ch}
end

section
variable {G:Nat→Prop} {W w:World} {L:List Ch}
theorem flat_len' {α:Type} {enc:α→List Value} {size:Nat}:∀l:List α,(∀x∈l,(enc x).length=size)→(l.flatMap enc).length=l.length*size
 | [],_=>by simp
 | x::t,h=>by rw [List.flatMap_cons,List.length_append,h x (by simp),flat_len' t fun y hy=>h y (by simp [hy]),List.length_cons,Nat.succ_mul];omega
/-- append, of all that a slice has. -/
theorem St.appendRd {α:Type} {r:Rep α} {enc:α→List Value} {P:Program} {X:Pan} {K:Value→World→Prop} (h:St G W w L) (k:Nat) {t ty e:TypeId} {z:Value} {bytes:Nat} {a0:Option Addr} {n c:Nat} {xs:List Value} (hk:L[k]?=some (rowC e r.size a0 n c xs))
  (ht:P.underlying t=some (.slice e)) (hi:(P.info? e).map (fun i=>(i.zero,i.size,i.bytes))=some (some z,r.size,bytes)) (hzs:z.cells.size=r.size) (hsz:0<r.size)
  {A:Option Addr} {c1 B:Nat} {l:List α} (hr:(rSlice r).at1 w B (.slice A l.length c1) l) (henc:∀{ys x},r.ok w B ys x→x∈l→ys=enc x) (hone:∀x∈l,∀u∈enc x,u.oneCell'=true) (hlen:∀x∈l,(enc x).length=r.size)
  (h63:n+l.length≤maxLen) (hbytes:(n+l.length)*bytes≤maxBytes)
  (hK:∀a' cap w',St G W w' (L.set k (rowC e r.size a' (n+l.length) cap (xs++l.flatMap enc)))→K (.slice a' (n+l.length) cap) w') :
  RES X ((Builtin.append_ #[t,t] ty #[.slice a0 n c,.slice A l.length c1]).run P w) K:=by
 cases A with
 | none =>
  have hl:l=[]:=by
   obtain ⟨A',c',hv,h1,h2,h3,h4⟩:=hr
   rcases Nat.eq_zero_or_pos l.length with h0 | h0
   ·exact List.eq_nil_of_length_eq_zero h0
   ·obtain ⟨b,o,e,_⟩:=h4 h0
    injection hv with hv;injection hv with hA;rw [e] at hA;cases hA
  subst hl
  obtain ⟨i,hi',hz,hs1,hb1⟩:∃i,P.info? e=some i∧i.zero=some z∧i.size=r.size∧i.bytes=bytes:=by
   cases hq:P.info? e with
   | none=>rw [hq] at hi;cases hi
   | some i=>rw [hq] at hi;simp at hi;exact ⟨i,rfl,hi.1,hi.2.1,hi.2.2⟩
  obtain ⟨F,ho,_⟩:=h.get hk
  have hrun:(Builtin.append_ #[t,t] ty #[.slice a0 n c,.slice none 0 c1]).run P w = .ok (.slice a0 n c) w:=by
   rcases ho.1.2 with ⟨h1,rfl⟩ | ⟨g,cap,cur,h1,_,_,hnc,_⟩
   ·injection h1 with h1 h2 h3;subst h1 h3
    simp [Builtin.append_,run_underlying ht,sizeOf,typeInfo,hi',Builtin.lenOf,Builtin.firstCells]
   ·injection h1 with h1 h2 h3;subst h1 h3
    simp [Builtin.append_,run_underlying ht,sizeOf,typeInfo,hi',Builtin.lenOf,Builtin.firstCells,hnc,storeCells]
  rw [List.length_nil,hrun,RES_ok]
  exact hK a0 c w (h.turn hk fun F hf=>by simpa using hf)
 | some a =>
  refine h.appendN k hk ht hi hzs hsz (flat_len' l hlen) (fun j u hj=>?_) (fun u hu=>?_) h63 hbytes fun a' cap w' h' _=>hK a' cap w' h'
  ·have hlen':=flat_len' l hlen
   have hjl:j<l.length*r.size:=by rw [←hlen'];exact (List.getElem?_eq_some_iff.1 hj).1
   have hi2:j / r.size<l.length:=(Nat.div_lt_iff_lt_mul hsz).2 hjl
   have hm:j % r.size<r.size:=Nat.mod_lt _ hsz
   have hdm:j / r.size*r.size+j % r.size=j:=by rw [Nat.mul_comm];exact Nat.div_add_mod j r.size
   obtain ⟨b',o',ys,hA,hb,hok,hc⟩:=slice_at hr hi2
   injection hA with hA;subst hA
   have hy:=henc hok (List.getElem_mem hi2)
   have hf:=flat_at hlen (List.getElem?_eq_getElem hi2) hm
   rw [hdm,hj] at hf
   have:=hc (j % r.size) u (by rw [hy];exact hf.symm)
   rw [Addr.add_lit,show o'+j=o'+(j / r.size*r.size+j % r.size) by omega]
   exact this
  ·obtain ⟨x,hx,hu⟩:=List.mem_flatMap.1 hu
   exact hone x hx u hu
end
end Go.Px

/-
  Maps that are owned, from keys to values of any kind of one cell; a range over one.
-/
namespace Go.Px
open Go.RowKit
set_option linter.unusedSectionVars false
/-- A value as it is. -/
def hv:Value→Option (DataW Value×List MemPlace):=fun v=>some (.held v,[])
/-- What a map says at each key. -/
structure MapSays {κ:Type} (Y:KeyT κ) (D:DataW Value) (f:κ→Option Value):Prop where
 off:∀a,f a=none→Maps.has D (Y.lit a)=false
 on:∀a u,f a=some u→Maps.has D (Y.lit a)=true
 at':∀a z,D.atKey (Y.lit a) (.held z) = .held ((f a).getD z)
/-- A map that is owned, of n keys at most. -/
def mapVC (P:Program) {κ:Type} (Y:KeyT κ) (k:TypeId) (v:Value) (n:Nat) (f:κ→Option Value):Ch where
 ok w F:=∃b,v = .map (some b)∧F b∧∃D:DataW Value,w.ownsMap P k hv b n D∧MapSays Y D f
 keep h hc hX hF:=by
  obtain ⟨b,hv',hb,D,hD,r⟩:=h
  have hlt:=hD.lt
  refine ⟨b,hv',hF b hlt hb,D,?_,r⟩
  obtain ⟨es,clock,hb',h2⟩:=hD
  exact ⟨es,clock,(hc.block b hlt (hX b hlt hb)).trans hb',h2⟩
/-- .. while it is ranged over: these keys are still to come. -/
def rngVC (P:Program) {κ:Type} (Y:KeyT κ) (k:TypeId) (v it:Value) (n:Nat) (f:κ→Option Value) (cnt:Nat) (left:κ→Bool):Ch where
 ok w F:=∃b r,v = .map (some b)∧it = .pointer (some ⟨r,0,none⟩)∧F b∧F r∧∃(D:DataW Value) (lf:Lit→Bool),w.ranges P k hv b r n D lf cnt∧MapSays Y D f∧∀a,lf (Y.lit a)=left a
 keep h hc hX hF:=by
  obtain ⟨b,r,hv',hr',hb,hr,D,lf,hD,h3⟩:=h
  have h1:=hD.owns.lt
  have h2:=hD.lt
  refine ⟨b,r,hv',hr',hF b h1 hb,hF r h2 hr,D,lf,?_,h3⟩
  obtain ⟨es,clock,since,seen,c0,hb',F',hs,hD',hr'',rest⟩:=hD
  exact ⟨es,clock,since,seen,c0,(hc.block b h1 (hX b h1 hb)).trans hb',F',hs,hD',(hc.block r h2 (hX r h2 hr)).trans hr'',rest⟩
/-- What a type of keys and of maps must be. -/
structure MapTv (P:Program) {κ:Type} (Y:KeyT κ) (t k e:TypeId) (z:Value):Prop where
 tm:P.underlying t=some (.map k e)
 keyed:Maps.Keyed P k
 key:∀a:κ,Y.good a→keyOf P k (Y.val a)=some (Y.lit a)
 zero:∀w,(zeroValue e).run P w = .ok z w
section
variable {G:Nat→Prop} {W w w':World} {L:List Ch} {P:Program} {κ:Type} {Y:KeyT κ} {t kt e:TypeId} {z:Value} {n:Nat} {f:κ→Option Value}
theorem says_empty:MapSays Y (.map []:DataW Value) (fun _=>none):=⟨fun _ _=>rfl,fun _ _ h=>(by cases h),fun _ _=>rfl⟩
theorem St.mapV (h:St G W w L) (P:Program) {κ:Type} (Y:KeyT κ) (k:TypeId):St G W (w.alloc (.map #[] 0)) (L++[mapVC P Y k (.map (some w.heap.size)) 0 (fun _=>none)]):=by
 refine h.seq ⟨(Chg.refl _ _).alloc _,fun i=>if i=w.heap.size then 1 else 0,fun i hi=>?_,fun j c hj=>?_⟩
 ·by_cases e:i=w.heap.size
  ·subst e;exact ⟨fun h=>absurd h (Nat.lt_irrefl _),by simp⟩
  ·dsimp only at hi;rw [if_neg e] at hi;exact absurd rfl hi
 ·match j,hj with
  | 0,hj =>
   injection hj with hj;subst hj
   exact ⟨_,rfl,by simp,_,World.ownsMap_made w P k _,says_empty⟩
  | j+1,hj=>simp at hj
theorem St.mapVGet (M:MapTv P Y t kt e z) (h:St G W w L) (k:Nat) {v:Value} (hk:L[k]?=some (mapVC P Y kt v n f)) (a:κ) (ha:Y.good a) :
  (Instr.lookup t v (Y.val a) false).run P w = .ok ((f a).getD z) w:=by
 obtain ⟨F,⟨b,rfl,hb,D,hD,hs⟩,_⟩:=h.get hk
 obtain ⟨v,ps,hrun,hv'⟩:=hD.lookup M.keyed M.tm (M.zero w) (R:=hv) (zd := .held z) (zp:=[]) rfl (M.key a ha)
 unfold hv at hv'
 rw [hs.at' a z] at hv'
 injection hv' with hv'
 injection hv' with hv' _
 injection hv' with hv'
 rw [hrun,hv']
theorem St.mapVPut (M:MapTv P Y t kt e z) (h:St G W w L) (k:Nat) {v:Value} (hk:L[k]?=some (mapVC P Y kt v n f)) (a:κ) (ha:Y.good a) (hn:n<maxLen) (u:Value)
  (f':κ→Option Value) (h3:f' a=some u) (h4:∀c,c≠a→f' c=f c) :
  ∃w',(Instr.mapUpdate t v (Y.val a) u).run P w = .ok () w'∧St G W w' (L.set k (mapVC P Y kt v (n+1) f')):=by
 obtain ⟨F,⟨b,rfl,hb,D,hD,hsay⟩,hF,hs⟩:=h.opn hk
 obtain ⟨w',hrun,hown,hg⟩:=hD.update M.keyed M.tm hn (M.key a ha) (val:=u) (d := .held u) (ps:=[]) rfl
 refine ⟨w',hrun,hs w' _ ⟨hg.os,hg.tape,hg.output,hg.size,fun j hj hF=>hg.block j hj fun e=>hF (by injection e with e;rw [e];exact hb)⟩ ⟨b,rfl,Or.inl hb,_,hown,fun c hc=>?_,fun c x hc=>?_,fun c x=>?_⟩⟩
 ·by_cases hca:c=a
  ·subst hca;rw [h3] at hc;cases hc
  ·rw [Maps.has_put_other (fun e=>hca (Y.inj e))]
   exact hsay.off c (by rw [←h4 c hca];exact hc)
 ·by_cases hca:c=a
  ·subst hca;exact Maps.has_put_same hD.isMap (Y.isLit c) _
  ·rw [Maps.has_put_other (fun e=>hca (Y.inj e))]
   exact hsay.on c x (by rw [←h4 c hca];exact hc)
 ·by_cases hca:c=a
  ·subst hca;rw [Maps.atKey_put_same hD.isMap (Y.isLit c),h3];rfl
  ·rw [Maps.atKey_put_other (fun e=>hca (Y.inj e)),hsay.at' c,h4 c hca]
/-- A range begins. -/
theorem St.rngV (M:MapTv P Y t kt e z) (h:St G W w L) (k:Nat) {v:Value} (hk:L[k]?=some (mapVC P Y kt v n f)) :
  ∃it cnt w',(Instr.range t v).run P w = .ok it w'∧St G W w' (L.set k (rngVC P Y kt v it n f cnt (fun a=>(f a).isSome))):=by
 obtain ⟨F,⟨b,rfl,hb,D,hD,hsay⟩,hF,hs⟩:=h.opn hk
 obtain ⟨w',hrun,hr,hg,hsz⟩:=hD.range M.keyed M.tm
 refine ⟨_,_,w',hrun,hs w' _ ⟨hg.os,hg.tape,hg.output,hg.size,fun j hj hF=>hg.block j hj (by simp)⟩ ⟨b,w.heap.size,rfl,rfl,Or.inl hb,Or.inr ⟨Nat.le_refl _,by omega⟩,D,_,hr,hsay,fun a=>?_⟩⟩
 cases hf:f a with
 | none=>show _=(f a).isSome;rw [hf];exact hsay.off a hf
 | some u=>show _=(f a).isSome;rw [hf];exact hsay.on a u hf
/-- The next round: none is left; or a key that was left. (inv: what kinds of keys the map may have.) -/
theorem St.rngNext (M:MapTv P Y t kt e z) (h:St G W w L) (k:Nat) {v it:Value} {cnt:Nat} {left:κ→Bool} (hk:L[k]?=some (rngVC P Y kt v it n f cnt left)) (ty:TypeId) (inv:∀key kl,keyOf P kt key=some kl→∃a,key=Y.val a∧kl=Y.lit a∧Y.good a) :
  (cnt=0∧(∀a,left a=false)∧(Instr.next it false ty).run P w = .ok (.tuple #[.bool false]) w∧St G W w (L.set k (mapVC P Y kt v n f))) ∨
  ∃a u cnt' w',left a=true∧f a=some u∧Y.good a∧cnt'<cnt∧(Instr.next it false ty).run P w = .ok (.tuple #[.bool true,Y.val a,u]) w'∧(Instr.entry it).run P w' = .ok (.tuple #[Y.val a,u]) w'∧∀left':κ→Bool,left' a=false→(∀c,c≠a→left' c=left c)→St G W w' (L.set k (rngVC P Y kt v it n f cnt' left')):=by
 obtain ⟨F,⟨b,r,rfl,rfl,hb,hr,D,lf,hD,hsay,hlf⟩,hF,hs⟩:=h.opn hk
 rcases hD.next M.keyed ty with ⟨h0,h1,h2⟩ | ⟨key,u,kl,y,w',cnt',g1,g2,g3,g4,g5,g6,g7,g8,g9,g10⟩
 ·refine Or.inl ⟨h0,fun a=>?_,h2,hs w _ (Chg.refl _ _) ⟨b,rfl,Or.inl hb,D,hD.owns,hsay⟩⟩
  rw [←hlf a];exact h1 _
 ·obtain ⟨a,rfl,rfl,ha⟩:=inv key kl g1
  refine Or.inr ⟨a,u,cnt',w',by rw [←hlf a];exact g2,?_,ha,g7,g5,g10,fun left' e1 e2=>hs w' _ ⟨g8.os,g8.tape,g8.output,g8.size,fun j hj hF=>g8.block j hj fun e=>hF (by injection e with e;rw [e];exact hr)⟩ ⟨b,r,rfl,rfl,Or.inl hb,Or.inl hr,D,_,g6,hsay,fun c=>?_⟩⟩
  ·injection g3 with g3
   have e1:=(hsay.at' a u).symm.trans (g4 _)
   have e2:=(hsay.at' a (.bool true)).symm.trans (g4 _)
   rw [←g3] at e1 e2
   injection e1 with e1
   injection e2 with e2
   cases hf:f a with
   | some x=>rw [hf] at e1;simp at e1;rw [e1]
   | none =>
    rw [hf] at e2
    simp at e2
    have:=hsay.at' a (.bool false)
    rw [g4,←g3,hf] at this
    simp at this
    rw [←e2] at this
    cases this
  ·by_cases hc:c=a
   ·subst hc
    rw [e1,WideAt.sameKey_self (Y.isLit c)];simp
   ·rw [e2 c hc,←hlf c]
    have:(Y.lit c).sameKey (Y.lit a)=false:=Maps.sameKey_ne fun e=>hc (Y.inj e)
    rw [this];simp
end
end Go.Px

/-
  Pieces in groups: the last piece is several pieces.
-/
namespace Go.Px
open Go.RowKit
section
variable {G:Nat→Prop} {W w:World} {L L':List Ch}

end
end Go.Px

/-
  A map from keys to rows that are owned: the idiom m[k] = append(m[k], x).
-/
namespace Go.Px
open Go.RowKit
set_option linter.unusedSectionVars false
theorem St.inAll' {G:Nat→Prop} {W w:World} {L:List Ch} (h:St G W w L) (k:Nat) {L':List Ch} (hk:L[k]?=some (Ch.all L')):∃F,St F w w L'∧∀w' L'',St F w w' L''→St G W w' (L.set k (Ch.all L'')):=by
 obtain ⟨F,ho,hF,hs⟩:=h.opn hk
 exact ⟨F,St.enter ho,fun w' L'' h'=>hs w' _ h'.chg h'.leave⟩
section
variable {κ α:Type} [DecidableEq κ]
/-- Entries: a key, where its row is, how much it may take, what it holds. -/
abbrev Ent (κ α:Type):=κ×Option Addr×Nat×List α
def valE (x:Ent κ α):Value := .slice x.2.1 x.2.2.2.length x.2.2.1
def fE (E:List (Ent κ α)) (a:κ):Option Value:=(E.find? fun x=>x.1=a).map valE
def vE (E:List (Ent κ α)) (a:κ):List α:=((E.find? fun x=>x.1=a).map fun x=>x.2.2.2).getD []
def rowsE (e:TypeId) (size:Nat) (enc:α→List Value) (E:List (Ent κ α)):List Ch:=E.map fun x=>rowC e size x.2.1 x.2.2.2.length x.2.2.1 (x.2.2.2.flatMap enc)
theorem find_idx {E:List (Ent κ α)} {a:κ} {x:Ent κ α} (h:E.find? (fun x=>decide (x.1=a))=some x):∃j:Nat,E[j]?=some x∧x.1=a:=by
 obtain ⟨j,hj⟩:=List.mem_iff_getElem?.1 (List.mem_of_find?_eq_some h)
 exact ⟨j,hj,by simpa using List.find?_some h⟩
theorem find_of {E:List (Ent κ α)} (hn:(E.map (·.1)).Nodup) {j:Nat} {x:Ent κ α} (h:E[j]?=some x) {a:κ} (ha:x.1=a):E.find? (fun x=>decide (x.1=a))=some x:=by
 subst ha
 induction E generalizing j with
 | nil=>simp at h
 | cons y E ih =>
  rw [List.map_cons,List.nodup_cons] at hn
  match j,h with
  | 0,h=>simp at h;subst h;simp
  | j+1,h =>
   have h:E[j]?=some x:=by simpa using h
   have hne:y.1≠x.1:=fun e=>hn.1 (by rw [e];exact List.mem_map.2 ⟨x,List.mem_of_getElem? h,rfl⟩)
   rw [List.find?_cons_of_neg (by simpa using hne)]
   exact ih hn.2 h
theorem find_set {E:List (Ent κ α)} (hn:(E.map (·.1)).Nodup) {j:Nat} {x y:Ent κ α} (h:E[j]?=some x) (hy:y.1=x.1) (b:κ):(E.set j y).find? (fun x=>decide (x.1=b))=if b=x.1 then some y else E.find? (fun x=>decide (x.1=b)):=by
 induction E generalizing j with
 | nil=>simp at h
 | cons z E ih =>
  rw [List.map_cons,List.nodup_cons] at hn
  match j,h with
  | 0,h =>
   simp at h;subst h
   rw [List.set_cons_zero]
   by_cases hb:b=z.1
   ·subst hb;simp [hy]
   ·rw [if_neg hb,List.find?_cons_of_neg (by rw [hy];simpa using Ne.symm hb),List.find?_cons_of_neg (by simpa using Ne.symm hb)]
  | j+1,h =>
   have h:E[j]?=some x:=by simpa using h
   have hne:z.1≠x.1:=fun e=>hn.1 (by rw [e];exact List.mem_map.2 ⟨x,List.mem_of_getElem? h,rfl⟩)
   rw [List.set_cons_succ]
   by_cases hb:z.1=b
   ·subst hb
    rw [List.find?_cons_of_pos (by simp),List.find?_cons_of_pos (by simp),if_neg hne]
   ·rw [List.find?_cons_of_neg (by simpa using hb),List.find?_cons_of_neg (by simpa using hb)]
    exact ih hn.2 h
theorem find_snoc {E:List (Ent κ α)} {y:Ent κ α} (h:E.find? (fun x=>decide (x.1=y.1))=none) (b:κ):(E++[y]).find? (fun x=>decide (x.1=b))=if b=y.1 then some y else E.find? (fun x=>decide (x.1=b)):=by
 rw [List.find?_append]
 by_cases hb:b=y.1
 ·subst hb
  rw [h,if_pos rfl];simp
 ·rw [if_neg hb,List.find?_cons_of_neg (by simpa using Ne.symm hb)]
  simp
section
variable {G:Nat→Prop} {W w:World} {L:List Ch} {P:Program} {X:Pan} {K:Value→World→Prop}
/-- append to a key's row. -/
theorem St.grpAppend (s:St G W w L) (kr:Nat) {e:TypeId} {size:Nat} {enc:α→List Value} {E:List (Ent κ α)} (hkr:L[kr]?=some (Ch.all (rowsE e size enc E))) (hn:(E.map (·.1)).Nodup) (hsz':∀x,(enc x).length=size) (hone:∀x,∀u∈enc x,u.oneCell'=true)
  {t ty:TypeId} {z:Value} {bytes:Nat} (ht:P.underlying t=some (.slice e)) (hi:(P.info? e).map (fun i=>(i.zero,i.size,i.bytes))=some (some z,size,bytes)) (hzs:z.cells.size=size) (hsz:0<size) (a:κ) (y:α) {ad:Addr} {c1:Nat} (hnews:∀j u,(enc y)[j]?=some u→w.cell? (ad.add j)=some u)
  (h63:(vE E a).length+1≤maxLen) (hbytes:((vE E a).length+1)*bytes≤maxBytes)
  (hK:∀(E':List (Ent κ α)) v' w',(E'.map (·.1)).Nodup→fE E' a=some v'→(∀c,c≠a→fE E' c=fE E c)→vE E' a=vE E a++[y]→(∀c,c≠a→vE E' c=vE E c)→(∀c,c∈E'.map (·.1)↔c=a∨c∈E.map (·.1))→E'.length≤E.length+1→St G W w' (L.set kr (Ch.all (rowsE e size enc E')))→K v' w') :
  RES X ((Builtin.append_ #[t,t] ty #[(fE E a).getD (.slice none 0 0),.slice (some ad) 1 c1]).run P w) K:=by
 have hkl:=(List.getElem?_eq_some_iff.1 hkr).1
 cases hf:E.find? (fun x=>decide (x.1=a)) with
 | some x =>
  obtain ⟨j,hj,hxa⟩:=find_idx hf
  obtain ⟨F,s1,hback⟩:=s.inAll' kr hkr
  have e1:fE E a=some (valE x):=by unfold fE;rw [hf];rfl
  have e2:vE E a=x.2.2.2:=by unfold vE;rw [hf];rfl
  rw [e1]
  rw [e2] at h63 hbytes hK
  have hk1:(rowsE e size enc E)[j]?=some (rowC e size x.2.1 x.2.2.2.length x.2.2.1 (x.2.2.2.flatMap enc)):=by unfold rowsE;rw [List.getElem?_map,hj];rfl
  refine s1.appendN j hk1 ht hi hzs hsz (m:=1) (by rw [hsz' y,Nat.one_mul]) hnews (hone y) h63 hbytes fun a' cap w' s2 hg=>?_
  obtain ⟨g,rfl⟩:=hg (by omega)
  have hfs:=find_set (y:=(a,some ⟨g,0,none⟩,cap,x.2.2.2++[y])) hn hj hxa.symm
  have hjl:=(List.getElem?_eq_some_iff.1 hj).1
  have hkeys:(E.set j (a,some ⟨g,0,none⟩,cap,x.2.2.2++[y])).map (·.1)=E.map (·.1):=by
   rw [List.map_set]
   show (E.map (·.1)).set j a=E.map (·.1)
   have h9:j<(E.map (·.1)).length:=by simpa using hjl
   have:=List.set_getElem_self h9
   rw [List.getElem_map,(List.getElem?_eq_some_iff.1 hj).2,hxa] at this
   exact this
  refine hK (E.set j (a,some ⟨g,0,none⟩,cap,x.2.2.2++[y])) _ w' (by rw [hkeys];exact hn) ?_ (fun c hc=>?_) ?_ (fun c hc=>?_) (fun c=>?_) (by rw [List.length_set];omega) ?_
  ·unfold fE;rw [hfs,if_pos hxa.symm]
   simp [valE]
  ·unfold fE;rw [hfs,if_neg (by rw [hxa];exact hc)]
  ·unfold vE;rw [hfs,if_pos hxa.symm];rfl
  ·unfold vE;rw [hfs,if_neg (by rw [hxa];exact hc)]
  ·rw [hkeys]
   exact ⟨Or.inr,fun h=>h.elim (fun e=>by rw [e,←hxa];exact List.mem_map.2 ⟨x,List.mem_of_getElem? hj,rfl⟩) id⟩
  ·have:=hback w' _ s2
   unfold rowsE at this ⊢
   rw [List.map_set]
   simpa using this
 | none =>
  have e1:fE E a=none:=by unfold fE;rw [hf];rfl
  have e2:vE E a=[]:=by unfold vE;rw [hf];rfl
  rw [e1]
  rw [e2] at h63 hbytes hK
  have s1:=s.nilRow e size
  refine s1.appendN L.length (by rw [List.getElem?_append_right (Nat.le_refl _),Nat.sub_self];rfl) ht hi hzs hsz (m:=1) (by rw [hsz' y,Nat.one_mul]) hnews (hone y) h63 hbytes fun a' cap w' s2 hg=>?_
  obtain ⟨g,rfl⟩:=hg (by omega)
  rw [List.set_append_right _ _ (Nat.le_refl _),Nat.sub_self,List.set_cons_zero,List.nil_append] at s2
  have hfs:=find_snoc (E:=E) (y:=(a,some ⟨g,0,none⟩,cap,[y])) hf
  refine hK (E++[(a,some ⟨g,0,none⟩,cap,[y])]) _ w' ?_ ?_ (fun c hc=>?_) ?_ (fun c hc=>?_) (fun c=>?_) (by simp) ?_
  ·rw [List.map_append,List.nodup_append]
   refine ⟨hn,by simp,fun b hb c hc=>?_⟩
   simp at hc;subst hc
   rintro rfl
   obtain ⟨x,hx,hxa⟩:=List.mem_map.1 hb
   have:=List.find?_eq_none.1 hf x hx
   simp [hxa] at this
  ·unfold fE;rw [hfs,if_pos rfl];rfl
  ·unfold fE;rw [hfs,if_neg hc]
  ·unfold vE;rw [hfs,if_pos rfl];rfl
  ·unfold vE;rw [hfs,if_neg hc]
  ·simp [or_comm]
  · -- the new row is laid to the others
   obtain ⟨hc2,T,hT,hk2⟩:=s2
   have hg:=hk2 kr _ (by rw [List.getElem?_append_left hkl];exact hkr)
   obtain ⟨T',hT',hk'⟩:=hg
   refine ⟨hc2,fun i=>if T i=L.length+1 then kr+1 else T i,fun i hi=>?_,fun k c hk=>?_⟩
   ·by_cases e:T i=L.length+1
    ·exact hT i (by omega)
    ·dsimp only at hi;rw [if_neg e] at hi;exact hT i hi
   ·rw [List.getElem?_set] at hk
    by_cases e:kr=k
    ·subst e
     rw [if_pos rfl,if_pos hkl] at hk
     injection hk with hk;subst hk
     refine ⟨fun i=>if T i=L.length+1 then E.length+1 else if T i=kr+1 then T' i else 0,fun i hi=>?_,fun j d hj=>?_⟩
     ·by_cases e1:T i=L.length+1
      ·exact ⟨by dsimp only;rw [if_pos e1],(hT i (by omega)).2⟩
      ·dsimp only at hi;rw [if_neg e1] at hi
       by_cases e2:T i=kr+1
       ·rw [if_pos e2] at hi
        exact ⟨by dsimp only;rw [if_neg e1];exact e2,(hT' i hi).2⟩
       ·rw [if_neg e2] at hi;exact absurd rfl hi
     ·unfold rowsE at hj
      rw [List.map_append] at hj
      by_cases hjl:j<E.length
      ·rw [List.getElem?_append_left (by simpa using hjl)] at hj
       refine d.keep (X:=noB) (hk' j d hj) (Chg.refl _ _) (fun _ _ _=>id) fun i _ e3=>?_
       have h3:=(hT' i (by omega)).1
       show (if T i=L.length+1 then E.length+1 else if T i=kr+1 then T' i else 0)=j+1
       rw [if_neg (by omega),if_pos h3];exact e3
      ·rw [List.getElem?_append_right (by simpa using hjl),List.length_map] at hj
       have hj0:j=E.length:=by
        have:=(List.getElem?_eq_some_iff.1 hj).1;simp at this;omega
       subst hj0
       simp at hj
       subst hj
       have hnew:=hk2 L.length _ (by rw [List.getElem?_append_right (Nat.le_refl _),Nat.sub_self];rfl)
       refine Ch.keep _ (X:=noB) (by simpa using hnew) (Chg.refl _ _) (fun _ _ _=>id) fun i _ e3=>?_
       show (if T i=L.length+1 then E.length+1 else if T i=kr+1 then T' i else 0)=E.length+1
       rw [if_pos e3]
    ·rw [if_neg e] at hk
     have hkL:k<L.length:=(List.getElem?_eq_some_iff.1 hk).1
     refine c.keep (X:=noB) (hk2 k c (by rw [List.getElem?_append_left hkL];exact hk)) (Chg.refl _ _) (fun _ _ _=>id) fun i _ e3=>?_
     have e3':T i=k+1:=e3
     dsimp only;rw [if_neg (by omega)];exact e3
end
end
end Go.Px
