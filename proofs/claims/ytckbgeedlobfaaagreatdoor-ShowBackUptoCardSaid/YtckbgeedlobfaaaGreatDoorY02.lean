/-
  Texts of this claim: PxTie, PxData, PxRow, PxMore, PxOwn, PxMap, PxSt, PxMapO, PxRange, PxRound, PxGrp.
-/
import Derived.Test.YtckbgeedlobfaaaGreatDoorY01
import Derived.ProofKit
import Derived.OpenShut
import Derived.Lib.Bytealg
import Derived.Lib.Strings
import Derived.Laws.DeepStrings4
import Derived.Maps.AppendAt
import Derived.Maps.OwnSet
import Derived.Maps.Views
import Derived.StringKeys
import Derived.WalkSmall
import Derived.RangeFuncFrom
import Derived.OrdersIn
namespace Go.Px
def TI (P:Program)(X:Pan)(c:Code)(q:XP)(F:Env→World→Prop):Prop:=∀ρ w,F ρ w→Zcy P X c q ρ w
section
variable {P:Program} {X:Pan} {c:Code} {q:XP} {F G n r:Env→World→Prop} {l:List (Nat×(Env→World→Prop))}
theorem ofT (h:∀ρ w,F ρ w=Zcy P X c q ρ w:=by intro _ _;kernel_rfl):TI P X c q F:=fun ρ w hf=>(h ρ w).mp hf
theorem appT (k:Nat)(hk:TI P X (Zi (k+1) c) (QX n r l) G)(h:∀ρ w,F ρ w=Zcy P X (preC k c) (QX G r l) ρ w:=by intro _ _;kernel_rfl)(e:appC k (preC k c) (Zi (k+1) c)=c:=by kernel_rfl):TI P X c (QX n r l) F:=fun ρ w hf=>by
 have h1:=(h ρ w).mp hf
 rw[←e]
 exact appQ G k h1 hk
theorem seqT (h1:TI P X (fstC c) (QX G r l) F)(h2:TI P X (sndC c) (QX n r l) G)(e:Code.seq (fstC c) (sndC c)=c:=by kernel_rfl):TI P X c (QX n r l) F:=fun ρ w hf=>by
 have:=h1 ρ w hf
 rw[←e]
 exact seqQ G this h2
theorem Zac (id:Nat)(h:TI P X (blkC c) (QX n r ((2*id,n)::l)) F)(e:Code.block id (blkC c)=c:=by kernel_rfl):TI P X c (QX n r l) F:=fun ρ w hf=>by
 have:=h ρ w hf
 rw[←e]
 exact ZZ347 this
theorem Zcg {ρ:Env}{w:World}(I:Env→World→Prop)(μ:Env→World→Nat)(h0:I ρ w)
  (hr:∀ρ' w',Ze8 (writes (Zby c)) ρ ρ'→I ρ' w'→Zcy P X (Zby c) (QX (fun ρ'' w''=>I ρ'' w''∧μ ρ'' w''<μ ρ' w') r l) ρ' w') (e:Code.loop (Zby c)=c:=by kernel_rfl):Zcy P X c (QX n r l) ρ w:=by
 rw[←e]
 exact loopQ I μ h0 hr
theorem Ze8.on {l:List Nat}{ρ ρ':Env}(h:Ze8 l ρ ρ')(n:Nat)(hn:l.elem n=false:=by kernel_rfl):ρ' n=ρ n:=h.at n hn
end
instance:Coe EP Pan:=⟨pan⟩
section
variable {P:Program} {f:FuncId} {fn:Func} {c:Code} {w:World} {R:EP}
theorem Zlz (hf:P.funcs[f]?=some fn)(args:List Value)(h:Zcy P (pan R) c (QX (fun _ w=>R (.returned (.tuple #[])) w) (fun _ w=>R (.returned (.tuple #[])) w) []) (Zfn args) w)
  (hm:P.follows .mixedOrders=true:=by kernel_rfl) (hb:fn.body=some c:=by kernel_rfl) (hok:codeOk fn.ntmps c=true:=by kernel_rfl) (ha:Nat.ble args.length fn.ntmps=true:=by rfl) (hr:fn.results=#[]:=by rfl):Calls P f args.toArray w R :=
 Zv8 hm hf hb hok (Nat.le_of_ble_eq_true ha) hr h
theorem Zbd {t:Nat}(hf:P.funcs[f]?=some fn)(args:List Value)(h:Zcy P (pan R) c (QX (fun ρ w=>R (.returned (ρ t)) w) (fun ρ w=>R (.returned (ρ t)) w) []) (Zfn args) w)
  (hm:P.follows .mixedOrders=true:=by kernel_rfl) (hb:fn.body=some c:=by kernel_rfl) (hok:codeOk fn.ntmps c=true:=by kernel_rfl) (ha:Nat.ble args.length fn.ntmps=true:=by rfl) (hr:fn.results=#[.tmp t]:=by rfl):Calls P f args.toArray w R :=
 Zxd hm hf hb hok (Nat.le_of_ble_eq_true ha) hr h
end
end Go.Px
namespace Go.Px
open Go.RowKit
structure Rep (α:Type) where
 size:Nat
 bytes:Nat
 ok:World→Nat→List Value→α→Prop
 len:∀{w B cs x},ok w B cs x→cs.length=size
 keep:∀{w w' B B' cs x},ok w B cs x→B≤B'→(∀b,b<B→w'.heap[b]?=w.heap[b]?)→ok w' B' cs x
 one:∀{w B cs x},ok w B cs x→∀u∈cs,u.oneCell'=true
 fit:α→Prop:=fun _=>True
 bulk:α→Nat:=fun _=>0
def Zyn:Nat:=0x7ffffffff000
def Rep.at1 {α:Type}(r:Rep α)(w:World)(B:Nat)(v:Value)(x:α):Prop:=r.ok w B [v] x
def Rep.atN {α:Type}(r:Rep α)(w:World)(B:Nat)(v:Value)(x:α):Prop:=∃cs,v = .agg cs.toArray∧r.ok w B cs x
def Zr:Nat:=140737488355328
def Zz (x:Int):Prop := -9223372036854775808≤x∧x≤9223372036854775807
def rInt:Rep Int where
 size:=1
 bytes:=8
 ok _ _ cs x:=cs=[.int .i64 x]∧Zz x
 len h:=by rw[h.1];rfl
 keep h _ _:=h
 one h u hu:=by rw[h.1]at hu;simp at hu;subst hu;rfl
 bulk _:=1
def rStr:Rep ByteArray where
 size:=1
 bytes:=16
 ok _ _ cs x:=cs=[.string x]∧x.size≤maxLen
 len h:=by rw[h.1];rfl
 keep h _ _:=h
 one h u hu:=by rw[h.1]at hu;simp at hu;subst hu;rfl
 fit x:=x.size≤Zyn
 bulk x:=x.size+1
def Rep.prod {α β:Type}(r:Rep α)(s:Rep β):Rep (α×β) where
 size:=r.size+s.size
 bytes:=r.bytes+s.bytes
 ok w B cs x:=∃c1 c2,cs=c1++c2∧r.ok w B c1 x.1∧s.ok w B c2 x.2
 len:=by rintro w B cs x ⟨c1,c2,rfl,h1,h2⟩;rw[List.length_append,r.len h1,s.len h2]
 keep:=by rintro w w' B B' cs x ⟨c1,c2,rfl,h1,h2⟩ hB hb;exact ⟨c1,c2,rfl,r.keep h1 hB hb,s.keep h2 hB hb⟩
 one:=by
  rintro w B cs x ⟨c1,c2,rfl,h1,h2⟩ u hu
  rcases List.mem_append.1 hu with hu|hu
  ·exact r.one h1 u hu
  ·exact s.one h2 u hu
 fit x:=r.fit x.1∧s.fit x.2
 bulk x:=r.bulk x.1+s.bulk x.2
def Rep.map {α β:Type}(r:Rep α)(f:β→α):Rep β where
 size:=r.size
 bytes:=r.bytes
 ok w B cs x:=r.ok w B cs (f x)
 len h:=r.len h
 keep h:=r.keep h
 one h:=r.one h
 fit x:=r.fit (f x)
 bulk x:=r.bulk (f x)
def Zo {α:Type}(r:Rep α):Rep (List α) where
 size:=1
 bytes:=24
 ok w B cs l:=∃A c,cs=[.slice A l.length c]∧l.length≤c∧c≤maxLen∧True ∧
  (0<l.length→∃b o,A=some ⟨b,o,none⟩∧b<B∧∀i x,l[i]?=some x→∃ys,r.ok w B ys x∧∀j u,ys[j]?=some u→w.cell? ⟨b,o+(i*r.size+j),none⟩=some u)
 len:=by rintro w B cs x ⟨A,c,rfl,_⟩;rfl
 keep:=by
  rintro w w' B B' cs l ⟨A,c,rfl,h1,h2,h3,h4⟩ hB hb
  refine ⟨A,c,rfl,h1,h2,h3,fun hl=>?_⟩
  obtain ⟨b,o,rfl,hbB,hc⟩:=h4 hl
  refine ⟨b,o,rfl,by omega,fun i x hi=>?_⟩
  obtain ⟨ys,hy,hcell⟩:=hc i x hi
  exact ⟨ys,r.keep hy hB hb,fun j u hu=>(World.cell?_of_block (hb b hbB)).trans (hcell j u hu)⟩
 one:=by rintro w B cs x ⟨A,c,rfl,_⟩ u hu;simp at hu;subst hu;rfl
 fit l:=l.length*r.bytes≤Zyn∧∀x∈l,r.fit x
 bulk l:=(l.map r.bulk).sum+1
section
variable {α:Type} {r:Rep α} {w w':World} {B B':Nat} {v:Value} {l:List α}
theorem Rep.below {cs:List Value}{x:α}(h:r.ok w B cs x)(hb:Below B w w'):r.ok w' B cs x:=r.keep h (Nat.le_refl _) hb.block
theorem Rep.up {cs:List Value}{x:α}(h:r.ok w B cs x)(hB:B≤B'):r.ok w B' cs x:=r.keep h hB fun _ _=>rfl
theorem Zay (h:(Zo r).at1 w B v l):∃A c,v = .slice A l.length c∧l.length≤c∧c≤maxLen∧True:=by
 obtain ⟨A,c,hv,h1,h2,h3,_⟩:=h
 exact ⟨A,c,by simpa using hv,h1,h2,h3⟩
theorem Zj5 {A:Option Addr}{n c:Nat}(h:(Zo r).at1 w B (.slice A n c) l){i:Nat}(hi:i<l.length) :
  ∃b o ys,A=some ⟨b,o,none⟩∧b<B∧r.ok w B ys l[i]∧∀j u,ys[j]?=some u→w.cell? ⟨b,o+(i*r.size+j),none⟩=some u:=by
 obtain ⟨A',c',hv,h1,h2,h3,h4⟩:=h
 obtain ⟨b,o,rfl,hb,hc⟩:=h4 (by omega)
 obtain ⟨ys,hy,hcell⟩:=hc i l[i] (List.getElem?_eq_getElem hi)
 injection hv with hv
 injection hv with hA
 exact ⟨b,o,ys,hA,hb,hy,hcell⟩
theorem ints_at {A:Option Addr}{n c:Nat}{l:List Int}(h:(Zo rInt).at1 w B (.slice A n c) l){i:Nat}(hi:i<l.length) :
  ∃b o,A=some ⟨b,o,none⟩∧b<B∧w.cell? ⟨b,o+i,none⟩=some (.int .i64 l[i])∧Zz l[i]:=by
 obtain ⟨b,o,ys,hA,hb,⟨rfl,hr⟩,hc⟩:=Zj5 h hi
 exact ⟨b,o,hA,hb,by simpa[rInt]using hc 0 _ rfl,hr⟩
theorem strs_at {A:Option Addr}{n c:Nat}{l:List ByteArray}(h:(Zo rStr).at1 w B (.slice A n c) l){i:Nat}(hi:i<l.length) :
  ∃b o,A=some ⟨b,o,none⟩∧b<B∧w.cell? ⟨b,o+i,none⟩=some (.string l[i])∧l[i].size≤maxLen:=by
 obtain ⟨b,o,ys,hA,hb,⟨rfl,hr⟩,hc⟩:=Zj5 h hi
 exact ⟨b,o,hA,hb,by simpa[rStr]using hc 0 _ rfl,hr⟩
end
theorem Zau {k n:Nat}(hk:k<n)(hn:n≤maxLen):IntKind.i64.wrap ((k:Int)+1)=(k:Int)+1:=by
 unfold maxLen at hn
 exact IntWalk.i64_in _ (by omega)
def iv:Value→Nat | .int _ q=>q.toNat | _=>0
end Go.Px
namespace Go.Px
open Go.ChangeShapes Go.WideShapes Go.ChangeAt Go.RowKit
section
variable {H:Type} {enc:TypeId×Value→H} {P:Program} {W W':World}
theorem Zkb (hl:laidOutB P=true){sp:Nat→Bool}:∀{ts:List TypeId} {vs:List Value} {ds:List (DataW H)} {ps:List MemPlace},(∀t∈ts,P.readableRec t=true∧t<P.types.size) →
  DataW.TrodAll enc P W 0 (fun _=>true) true ts vs ds ps→(∀x∈ps,W.sameAt W' x)→(∀x∈ps,sp x.block=true)→DataW.TrodAll enc P W' 0 sp true ts vs ds ps
 | [],_,_,_,_,h,_,_=>by
  obtain ⟨rfl,rfl,rfl⟩:=trodAll_nil h
  rfl
 | t::ts,_,_,_,ht,h,hs,hsp=>by
  obtain ⟨v,vs,d,ds,p,q,rfl,rfl,rfl,h1,h2⟩:=trodAll_cons h
  obtain ⟨hr,hrow⟩:=ht t (by simp)
  exact trodAll_cons_mk (WideElems.Trod_stays hl hr hrow h1 (fun x hx=>hs x (by simp[hx])) (fun x hx=>hsp x (by simp[hx])))
   (Zkb hl (fun t ht'=>ht t (by simp[ht'])) h2 (fun x hx=>hs x (by simp[hx])) (fun x hx=>hsp x (by simp[hx])))
theorem ZZ94 {f:Func}{s:ChangeSpec}{args:Array Value}{ds gs:List (DataW H)}{before:List MemPlace}{t:TypeId}
  (hl:laidOutB P=true) (hread:∀t∈f.params.toList,P.readableRec t=true∧t<P.types.size) (hvars:s.vars=[]) (hbool:P.underlying t=some .bool) (hrt:f.resultTypes=#[t])
  (hW:DataW.Whole enc P f.params.toList s.vars false W args.toList ds gs before)
  (hres:(s.fn H (ds++gs)).results=[.lit (.bool true)]) (hargs:(s.fn H (ds++gs)).args=ds) (hvs:(s.fn H (ds++gs)).vars=[]) (hb:Below W.heap.size W W') :
  s.post enc P f false true false false W args (.bool true) W':=by
 have hlt:∀p∈before,p.block<W.heap.size:=fun p hp=>hW.lt p hp
 have hW0:=hW
 obtain ⟨p,q,hA,hV,rfl,_,_⟩:=hW
 rw[hvars]at hV
 have hV':=hV
 obtain ⟨rfl,rfl⟩:=trodVars_none hV
 refine ⟨ds,[],p++[],[],p,[],hW0,?_,?_,?_,?_,fun h=>by cases h⟩
 ·rw[hres,hrt]
  exact trodAll_cons_mk (shut_bool hbool true) trodAll_mk0
 ·rw[hargs]
  exact Zkb hl hread hA (fun x hx=>hb.same (hlt x (by simpa using hx))) (fun x hx=>by simpa using hlt x (by simpa using hx))
 ·rw[hvs,hvars];rfl
 ·exact World.keptBut_mono (fun x hx=>⟨hx,Or.inr (by simpa using hx)⟩) (hb.frame (·∈p++[]))
end
end Go.Px
namespace Go.Px
open Go.RowKit
structure Chg (F:Nat→Prop)(w w':World):Prop where
 os:w'.os=w.os
 tape:w'.tape=w.tape
 output:w'.output=w.output
 size:w.heap.size≤w'.heap.size
 block:∀k,k<w.heap.size→¬F k→w'.heap[k]?=w.heap[k]?
section
variable {F G:Nat→Prop} {a b c w w':World}
theorem Chg.refl (F:Nat→Prop)(w:World):Chg F w w:=⟨rfl,rfl,rfl,Nat.le_refl _,fun _ _ _=>rfl⟩
theorem Chg.trans (h:Chg F a b)(k:Chg F b c):Chg F a c :=
 ⟨k.os.trans h.os,k.tape.trans h.tape,k.output.trans h.output,Nat.le_trans h.size k.size,fun i hi hF=>(k.block i (Nat.lt_of_lt_of_le hi h.size) hF).trans (h.block i hi hF)⟩
theorem Chg.trans' (h:Chg F a b)(k:Chg G b c)(hG:∀i,i<a.heap.size→G i→F i):Chg F a c :=
 ⟨k.os.trans h.os,k.tape.trans h.tape,k.output.trans h.output,Nat.le_trans h.size k.size,fun i hi hF=>(k.block i (Nat.lt_of_lt_of_le hi h.size) (fun hg=>hF (hG i hi hg))).trans (h.block i hi hF)⟩
theorem Chg.mono (h:Chg F w w')(hF:∀i,i<w.heap.size→F i→G i):Chg G w w':=⟨h.os,h.tape,h.output,h.size,fun k hk hg=>h.block k hk fun hf=>hg (hF k hk hf)⟩
theorem Chg.drew (h:Chg F a w):Chg F a w.drew:=⟨h.os,h.tape,h.output,h.size,h.block⟩
theorem Chg.alloc (h:Chg F a w)(o:Obj):Chg F a (w.alloc o) :=
 h.trans' (G:=fun _=>False) ⟨rfl,rfl,rfl,by simp,fun k hk _=>Below.heap_alloc _ _ _ hk⟩ (fun _ _ h=>h.elim)
theorem Chg.setCell (h:Chg F a w){p:Addr}(hp:F p.block∨a.heap.size≤p.block)(u:Value):Chg F a (w.setCell p u) :=
 ⟨h.os,h.tape,h.output,by simpa using h.size,fun k hk hF=>by
  rw[Below.heap_setCell _ _ _ _ (by rintro rfl;rcases hp with hp | hp;exact hF hp;omega)]
  exact h.block k hk hF⟩
theorem Chg.grown {row:Option Nat}(h:Chg F a w)(hg:w.grownBy w' row)(hr:∀k,row=some k→F k∨a.heap.size≤k):Chg F a w' :=
 ⟨hg.os.trans h.os,hg.tape.trans h.tape,hg.output.trans h.output,Nat.le_trans h.size hg.size,fun k hk hF=>by
  rw[hg.block k (Nat.lt_of_lt_of_le hk h.size) (fun e=>by rcases hr k e.symm with h1 | h1;exact hF h1;omega)]
  exact h.block k hk hF⟩
theorem Chg.cell (h:Chg F w w'){p:Addr}(hp:p.block<w.heap.size)(hF:¬F p.block):w'.cell? p=w.cell? p:=World.cell?_of_block (w:=w) (h.block p.block hp hF)
theorem Chg.at (h:Chg F w w'){p:Addr}{v:Value}(hv:w.cell? p=some v)(hF:¬F p.block):w'.cell? p=some v:=(h.cell (World.block_lt_of_cell? w p hv) hF).trans hv
theorem Chg.frozen (h:Chg F w w'){p:Addr}(hp:p.block<w.heap.size)(hF:¬F p.block):w'.frozen? p=w.frozen? p:=World.frozen?_of_block (w:=w) (h.block p.block hp hF)
theorem Chg.below {B:Nat}(h:Chg F w w')(hB:B≤w.heap.size)(hF:∀k,k<B→¬F k):Below B w w':=⟨h.os,h.tape,h.output,h.size,fun k hk=>h.block k (by omega) (hF k hk)⟩
theorem Below.chg (h:Below w.heap.size w w'):Chg F w w':=⟨h.os,h.tape,h.output,h.size,fun k hk _=>h.block k hk⟩
end
def bt (s:ByteArray)(i:Nat):Nat:=if h:i<s.size then (s[i]'h).toNat else 0
theorem Zxp (s:ByteArray)(i:Nat):bt s i<256:=by
 unfold bt
 split
 ·exact UInt8.toNat_lt _
 ·omega
section
variable {P:Program} {w:World}
theorem Zdc {t:TypeId}{s:ByteArray}{k:IntKind}{i:Nat}(h:P.underlying t=some .string)(hi:i<s.size):(Instr.index t (.string s) (.int k (i:Int))).run P w = .ok (.int .u8 (bt s i)) w:=by
 rw[run_index_string w t s k i h,dif_pos (by omega)]
 unfold bt
 rw[dif_pos hi]
 rfl
end
end Go.Px
namespace Go.Px
open Go.RowKit
theorem Zhq {F:Nat→Prop}{w w':World}{base e size:Nat}{v:Value}{n:Nat}{xs:List Value}(h:w.ownsRow base e size v n xs)(hc:Chg F w w')(hF:∀i,base≤i→¬F i):w'.ownsRow base e size v n xs:=by
 refine ⟨h.1,?_⟩
 rcases h.2 with h2|⟨g,cap,cur,hv,hb,hg,hr⟩
 ·exact Or.inl h2
 ·refine Or.inr ⟨g,cap,cur,hv,hb,?_,hr⟩
  rw[hc.block g (Array.getElem?_eq_some_iff.1 hg).1 (hF g hb)]
  exact hg
theorem Zcf {w:World}{base e size:Nat}{v:Value}{n:Nat}{xs:List Value}(h:w.ownsRow base e size v n xs){k:Nat}(hk:v.ownBlock=some k):base≤k∧k<w.heap.size:=by
 rcases h.2 with ⟨rfl,_⟩|⟨g,cap,cur,rfl,hb,hg,_⟩
 ·cases hk
 ·cases hk;exact ⟨hb,(Array.getElem?_eq_some_iff.1 hg).1⟩
theorem Zlv {w:World}{base base' e size:Nat}{v:Value}{n:Nat}{xs:List Value}(h:w.ownsRow base e size v n xs)(hb:base'≤base):w.ownsRow base' e size v n xs :=
 ⟨h.1,h.2.imp id fun ⟨g,cap,cur,hv,hg,r⟩=>⟨g,cap,cur,hv,Nat.le_trans hb hg,r⟩⟩
theorem Zdh {α:Type}{r:Rep α}{enc:α→List Value}{w:World}{base e B:Nat}{v:Value}{l:List α}(h:w.ownsRow base e r.size v l.length (l.flatMap enc))
  (hsz:∀x∈l,(enc x).length=r.size) (hr:∀x∈l,r.ok w B (enc x) x) (hB:w.heap.size≤B):(Zo r).at1 w B v l:=by
 rcases h.2 with ⟨rfl,hn⟩|⟨g,cap,cur,rfl,_,hg,hnc,hcm,hcs,htake⟩
 ·exact ⟨none,0,by rw[hn],by omega,by simp[maxLen],trivial,fun h=>by omega⟩
 ·refine ⟨some ⟨g,0,none⟩,cap,rfl,hnc,hcm,trivial,fun _=>⟨g,0,rfl,?_,fun i x hi=>⟨enc x,hr x (List.mem_of_getElem? hi),fun j u hj=>?_⟩⟩⟩
  ·have:=(Array.getElem?_eq_some_iff.1 hg).1;omega
  ·have hil:=(List.getElem?_eq_some_iff.1 hi).1
   have hx:=(List.getElem?_eq_some_iff.1 hi).2
   have hjl:j<r.size:=by have:=(List.getElem?_eq_some_iff.1 hj).1;rw[hsz x (List.mem_of_getElem? hi)]at this;exact this
   have key:∀(l:List α) (i:Nat) (x:α),(∀x∈l,(enc x).length=r.size)→l[i]?=some x→(l.flatMap enc)[i*r.size+j]?=(enc x)[j]?:=by
    intro l
    induction l with
    | nil=>intro i x _ h;simp at h
    | cons y l ih=>
     intro i x hs h
     cases i with
     | zero=>
      simp at h;subst h
      rw[List.flatMap_cons,Nat.zero_mul,Nat.zero_add,List.getElem?_append_left (by rw[hs y (by simp)];exact hjl)]
     | succ i=>
      rw[List.flatMap_cons,List.getElem?_append_right (by rw[hs y (by simp),Nat.succ_mul];omega),hs y (by simp),Nat.succ_mul,show i*r.size+r.size+j-r.size=i*r.size+j by omega]
      exact ih i x (fun z hz=>hs z (by simp[hz])) (by simpa using h)
   have hk:=key l i x hsz hi
   rw[hj,←htake]at hk
   have hk2:cur.toList[i*r.size+j]?=some u:=by
    rw[List.getElem?_take]at hk
    split at hk
    ·exact hk
    ·cases hk
   simp only[World.cell?,hg,Nat.zero_add]
   simpa using hk2
theorem Zi5 {P:Program}{X:Pan}{w:World}{K:Value→World→Prop}(t ty e:TypeId){i:TypeInfo}{z:Value}{size bytes base:Nat}(ht:P.underlying t=some (.slice e))(hi:P.info? e=some i)(hz:i.zero=some z)
  (hsize:i.size=size) (hby:i.bytes=bytes) (hzs:z.cells.size=size) (hsz:0<size) {v:Value} {n:Nat} {xs:List Value} (hown:w.ownsRow base e size v n xs)
  {a:Addr} {c:Nat} {news:List Value} (hl:news.length=size) (hnews:∀j u,news[j]?=some u→w.cell? (a.add j)=some u) (h1:∀u∈news,u.oneCell'=true)
  (h63:n+1≤maxLen) (hbytes:(n+1)*bytes≤Zr) (hbase:base≤w.heap.size)
  (hK:∀g cap w',w'.ownsRow base e size (.slice (some ⟨g,0,none⟩) (n+1) cap) (n+1) (xs++news)→w.grownBy w' v.ownBlock→(v.ownBlock=some g∨g=w.heap.size)→K (.slice (some ⟨g,0,none⟩) (n+1) cap) w') :
  RES X ((Builtin.append_ #[t,t] ty #[v,.slice (some a) 1 c]).run P w) K:=by
 obtain ⟨v',w',hrun,hown',hgr,_,hb⟩:=run_append_own_at (P:=P) w base t ty e i z size bytes ht hi hz hsize hby hzs hsz v n xs hown a 1 c news (by rw[hl,Nat.one_mul]) hnews h1 h63 hbytes hbase
 rw[hrun,Zb9]
 rcases hown'.2 with ⟨_,hn⟩|⟨g,cap,cur,rfl,hr⟩
 ·omega
 ·refine hK g cap w' hown' hgr ?_
  rcases hb with hb|hb
  ·exact Or.inl hb.symm
  ·right;simpa[Value.ownBlock]using hb
theorem Ze9 (w:World)(l:List Value)(t:TypeId){n:Nat}(hn:n=w.heap.size):∀j u,l[j]?=some u→(w.alloc (.cells l.toArray t)).cell? ((⟨n,0,none⟩:Addr).add j)=some u:=by
 intro j u hj
 subst hn
 rw[Addr.add_lit,World.cell?_alloc_new,List.getElem?_toArray,Nat.zero_add]
 exact hj
theorem Zck (w:World)(cs:Array Value)(t:TypeId){n:Nat}(hn:n=w.heap.size)(i:Nat):(w.alloc (.cells cs t)).cell? ⟨n,i,none⟩=cs[i]?:=by subst hn;exact World.cell?_alloc_new w cs t i
theorem Zcs (w:World)(cs:Array Value)(t:TypeId){n:Nat}(hn:n=w.heap.size)(i:Nat):(w.alloc (.cells cs t)).frozen? ⟨n,i,none⟩=false:=by subst hn;exact World.frozen?_alloc_new w cs t i
theorem Zgd {F:Nat→Prop}{w w':World}{row:Option Nat}(hg:w.grownBy w' row)(hr:∀k,row=some k→F k):Chg F w w' :=
 Chg.grown (Chg.refl F w) hg fun k hk=>Or.inl (hr k hk)
end Go.Px
namespace Go.Px
open Go.RowKit
structure KeyT (κ:Type) where
 val:κ→Value
 lit:κ→Lit
 good:κ→Prop
 inj:∀{a b},lit a=lit b→a=b
 isLit:∀a,WideAt.IsKeyLit (lit a)
def kStr:KeyT ByteArray where
 val s := .string s
 lit s := .string s.data.toList
 good s:=s.size≤maxLen
 inj:=by
  intro a b h
  cases a;cases b
  simp at h
  cases h;rfl
 isLit _:=trivial
def kInt:KeyT Int where
 val x := .int .i64 x
 lit x := .int .i64 x
 good x:=Zz x
 inj:=by intro a b h;simpa using h
 isLit _:=trivial
structure Zm7 (P:Program){κ:Type}(Y:KeyT κ)(t k e:TypeId):Prop where
 tm:P.underlying t=some (.map k e)
 te:P.underlying e=some (.int .i64)
 keyed:Maps.Keyed P k
 key:∀a:κ,Y.good a→keyOf P k (Y.val a)=some (Y.lit a)
 zero:∀w,(zeroValue e).run P w = .ok (.int .i64 0) w
def Zgp (P:Program){κ:Type}(Y:KeyT κ)(k e:TypeId)(w:World)(v:Value)(n:Nat)(f:κ→Int):Prop :=
 (v = .map none∧n=0∧∀a,f a=0)∨∃b,v = .map (some b)∧∃D:DataW Unit,w.ownsMap P k (plainElem P e) b n D∧Maps.size D=n∧(∀a:κ,D.atKey (Y.lit a) (.lit (.int .i64 0)) = .lit (.int .i64 (f a)))∧∀a:κ,Maps.has D (Y.lit a)=true→f a≠0
section
variable {P:Program} {κ:Type} {Y:KeyT κ} {t k e:TypeId} {w w':World} {v:Value} {n:Nat} {f:κ→Int}
theorem Zgp.nil:Zgp P Y k e w (.map none) 0 (fun _=>0):=Or.inl ⟨rfl,rfl,fun _=>rfl⟩
theorem Zgp.chg {F:Nat→Prop}(h:Zgp P Y k e w v n f)(hc:Chg F w w')(hF:∀b,v = .map (some b)→¬F b):Zgp P Y k e w' v n f:=by
 rcases h with h|⟨b,hv,D,hD,r⟩
 ·exact Or.inl h
 ·refine Or.inr ⟨b,hv,D,?_,r⟩
  obtain ⟨es,clock,hb,h2⟩:=hD
  exact ⟨es,clock,(hc.block b (Array.getElem?_eq_some_iff.1 hb).1 (hF b hv)).trans hb,h2⟩
theorem Zgp.lt (h:Zgp P Y k e w v n f){b:Nat}(hv:v = .map (some b)):b<w.heap.size:=by
 rcases h with h|⟨b',hv',D,hD,_⟩
 ·rw[h.1]at hv;cases hv
 ·rw[hv']at hv;cases hv;exact hD.lt
theorem Zgp.lookup (T:Zm7 P Y t k e)(h:Zgp P Y k e w v n f)(a:κ)(ha:Y.good a):(Instr.lookup t v (Y.val a) false).run P w = .ok (.int .i64 (f a)) w:=by
 rcases h with ⟨rfl,_,h0⟩|⟨b,rfl,D,hD,_,hat,_⟩
 ·rw[h0 a]
  obtain h:=Maps.look_nil (w:=w) false T.keyed T.tm (T.zero w) (T.key a ha)
  simpa using h
 ·obtain ⟨c,hrun,hc,_⟩:=hD.lookup_int T.keyed T.tm T.te (T.zero w) (T.key a ha)
  rw[hat a]at hc
  injection hc with hc
  injection hc with _ hc
  rw[hrun,hc]
open Classical in
theorem Zgp.update (T:Zm7 P Y t k e){b:Nat}(h:Zgp P Y k e w (.map (some b)) n f)(a:κ)(ha:Y.good a)(hn:n<maxLen){x:Int}(hx:Zz x)(hx0:x≠0) :
  ∃w',(Instr.mapUpdate t (.map (some b)) (Y.val a) (.int .i64 x)).run P w = .ok () w'∧Zgp P Y k e w' (.map (some b)) (if f a=0 then n+1 else n) (fun c=>if c=a then x else f c)∧w.grownBy w' (some b):=by
 rcases h with ⟨hv,_⟩|⟨b',hv,D,hD,hsz,hat,hhas⟩
 ·cases hv
 ·cases hv
  have hwf:(Lit.int .i64 x).wf=true:=by
   have hm:IntKind.i64.min = -9223372036854775808:=by decide
   obtain ⟨h1,h2⟩:=hx
   simp[Lit.wf,hm]
   omega
  obtain ⟨w',hrun,hown,hg⟩:=hD.update T.keyed T.tm hn (T.key a ha) (plainElem_int (H:=Unit) (P:=P) T.te hwf)
  have hsz':=Maps.size_put (hD.tidy T.keyed) (k:=Y.lit a) (.lit (.int .i64 x))
  have hfa:f a=0↔Maps.has D (Y.lit a)=false:=by
   constructor
   ·intro h0
    rw[Bool.eq_false_iff]
    intro hh
    exact hhas a hh h0
   ·intro hh
    have:=Maps.atKey_of_not_has hh (.lit (.int .i64 0))
    rw[hat a]at this
    injection this with this
    injection this with _ this
  have hsize:Maps.size (D.put (Y.lit a) (.lit (.int .i64 x)))=if f a=0 then n+1 else n:=by
   rw[hsz',hsz]
   by_cases h0:f a=0
   ·rw[if_pos h0,hfa.1 h0];rfl
   ·rw[if_neg h0]
    have:Maps.has D (Y.lit a)=true:=by
     cases hh:Maps.has D (Y.lit a) with
     | true=>rfl
     | false=>exact absurd (hfa.2 hh) h0
    rw[this];rfl
  refine ⟨w',hrun,Or.inr ⟨b,rfl,_,?_,hsize,fun c=>?_,fun c hc=>?_⟩,hg⟩
  ·rw[←hsize]
   obtain ⟨es,clock,hb,F,hs,hD'⟩:=hown
   refine ⟨es,clock,hb,F,?_,hD'⟩
   rw[hD',Maps.size_eq,length_read]
   exact Nat.le_refl _
  ·by_cases hca:c=a
   ·subst hca
    rw[Maps.atKey_put_same hD.isMap (Y.isLit c)]
    simp only[if_true]
   ·rw[Maps.atKey_put_other (fun e=>hca (Y.inj e)),hat c]
    simp only[if_neg hca]
  ·by_cases hca:c=a
   ·simp only[if_pos hca];exact hx0
   ·simp only[if_neg hca]
    rw[Maps.has_put_other (fun e=>hca (Y.inj e))]at hc
    exact hhas c hc
theorem Zgp.len (T:Zm7 P Y t k e)(h:Zgp P Y k e w v n f)(ty:TypeId):(Builtin.len_ #[t] ty #[v]).run P w = .ok (.int .i64 n) w:=by
 rcases h with ⟨rfl,rfl,_⟩|⟨b,rfl,D,hD,hsz,_⟩
 ·exact Maps.len_nil T.tm ty
 ·rw[hD.len T.tm ty,hsz]
theorem Zgp.made (P:Program){κ:Type}(Y:KeyT κ)(k e:TypeId)(w:World):Zgp P Y k e (w.alloc (.map #[] 0)) (.map (some w.heap.size)) 0 (fun _=>0) :=
 Or.inr ⟨_,rfl,_,World.ownsMap_made w P k _,rfl,fun _=>rfl,fun a h=>by cases h⟩
end
end Go.Px
namespace Go.Px
open Go.RowKit
structure Ch where
 ok:World→(Nat→Prop)→Prop
 keep:∀{w w':World} {X F F':Nat→Prop},ok w F→Chg X w w'→(∀b,b<w.heap.size→F b→¬X b)→(∀b,b<w.heap.size→F b→F' b)→ok w' F'
def Zhd (L:List Ch)(w:World)(F:Nat→Prop):Prop :=
 ∃T:Nat→Nat,(∀i,T i≠0→F i∧i<w.heap.size)∧∀(k:Nat) (c:Ch),L[k]?=some c→c.ok w (fun i=>T i=k+1)
theorem Zhd.keep {L:List Ch}{w w':World}{X F F':Nat→Prop}(h:Zhd L w F)(hc:Chg X w w')(hX:∀b,b<w.heap.size→F b→¬X b)(hF:∀b,b<w.heap.size→F b→F' b):Zhd L w' F':=by
 obtain ⟨T,ht,hk⟩:=h
 exact ⟨T,fun i hi=>⟨hF i (ht i hi).2 (ht i hi).1,Nat.lt_of_lt_of_le (ht i hi).2 hc.size⟩,fun k c hc'=>c.keep (hk k c hc') hc (fun b hb e=>hX b hb (ht b (by omega)).1) fun b _ e=>e⟩
def Ch.all (L:List Ch):Ch:=⟨Zhd L,Zhd.keep⟩
def Ch.ex {α:Type}(f:α→Ch):Ch:=⟨fun w F=>∃a,(f a).ok w F,fun ⟨a,h⟩ hc hX hF=>⟨a,(f a).keep h hc hX hF⟩⟩
def Ch.fact (p:Prop)(c:Ch):Ch:=⟨fun w F=>p∧c.ok w F,fun ⟨hp,h⟩ hc hX hF=>⟨hp,c.keep h hc hX hF⟩⟩
def Ch.emp:Ch:=⟨fun _ _=>True,fun _ _ _ _=>trivial⟩
structure St (G:Nat→Prop)(W w:World)(L:List Ch):Prop where
 chg:Chg G W w
 all:Zhd L w (fun i=>i<W.heap.size→G i)
abbrev noB:Nat→Prop:=fun _=>False
section
variable {G:Nat→Prop} {W w w':World} {L L':List Ch}
theorem St.start (h:Chg G W w):St G W w []:=⟨h,fun _=>0,fun i hi=>absurd rfl hi,fun k c hk=>by simp at hk⟩
theorem St.refl (G:Nat→Prop)(w:World):St G w w []:=St.start (Chg.refl _ _)
theorem St.enter {F:Nat→Prop}(h:Zhd L w F):St F w w L:=by
 obtain ⟨T,ht,hk⟩:=h
 exact ⟨Chg.refl _ _,T,fun i hi=>⟨fun _=>(ht i hi).1,(ht i hi).2⟩,hk⟩
theorem St.leave {F:Nat→Prop}(h:St F w w' L):Zhd L w' (fun i=>F i∨(w.heap.size≤i∧i<w'.heap.size)):=by
 obtain ⟨_,T,ht,hk⟩:=h
 refine ⟨T,fun i hi=>⟨?_,(ht i hi).2⟩,hk⟩
 by_cases hlt:i<w.heap.size
 ·exact Or.inl ((ht i hi).1 hlt)
 ·exact Or.inr ⟨by omega,(ht i hi).2⟩
theorem St.get (h:St G W w L){k:Nat}{c:Ch}(hk:L[k]?=some c):∃F:Nat→Prop,c.ok w F∧∀i,F i→i<w.heap.size∧(i<W.heap.size→G i):=by
 obtain ⟨_,T,ht,hL⟩:=h
 exact ⟨_,hL k c hk,fun i hi=>⟨(ht i (by omega)).2,(ht i (by omega)).1⟩⟩
theorem St.old (h:St G W w L)(hc:Chg noB w w'):St G W w' L :=
 ⟨h.chg.trans' hc fun _ _ h=>h.elim,h.all.keep hc (fun _ _ _=>id) (fun _ _ h=>h)⟩
theorem St.opn (h:St G W w L){k:Nat}{c0:Ch}(hk:L[k]?=some c0) :
  ∃F:Nat→Prop,c0.ok w F∧(∀i,F i→i<w.heap.size∧(i<W.heap.size→G i))∧∀(w':World) (c:Ch),Chg F w w'→c.ok w' (fun i=>F i∨(w.heap.size≤i∧i<w'.heap.size))→St G W w' (L.set k c):=by
 obtain ⟨hc0,T,ht,hL⟩:=h
 refine ⟨fun i=>T i=k+1,hL k c0 hk,fun i hi=>⟨(ht i (by omega)).2,(ht i (by omega)).1⟩,fun w' c hc hok=>⟨?_,fun i=>if w.heap.size≤i∧i<w'.heap.size then k+1 else T i,fun i hi=>?_,fun j d hj=>?_⟩⟩
 ·exact hc0.trans' hc fun i hi e=>(ht i (by omega)).1 hi
 ·by_cases e:w.heap.size≤i∧i<w'.heap.size
  ·exact ⟨fun h=>by have:=hc0.size;omega,e.2⟩
  ·dsimp only at hi;rw[if_neg e]at hi
   exact ⟨(ht i hi).1,Nat.lt_of_lt_of_le (ht i hi).2 hc.size⟩
 ·rw[List.getElem?_set]at hj
  by_cases e:k=j
  ·subst e
   have hkl:=(List.getElem?_eq_some_iff.1 hk).1
   rw[if_pos rfl,if_pos hkl]at hj
   injection hj with hj
   subst hj
   refine c.keep (X:=noB) hok (Chg.refl _ _) (fun _ _ _=>id) fun i hi e=>?_
   rcases e with e|e
   ·have h1:=(ht i (by omega)).2
    dsimp only;rw[if_neg (by omega)];exact e
   ·dsimp only;rw[if_pos e]
  ·rw[if_neg e]at hj
   refine d.keep (hL j d hj) hc (fun i hi e1 e2=>by omega) fun i hi e1=>?_
   dsimp only;rw[if_neg (by omega)];exact e1
theorem St.seq (h:St G W w L)(h2:St noB w w' L'):St G W w' (L++L'):=by
 obtain ⟨hc,T,ht,hL⟩:=h
 obtain ⟨hc2,T2,ht2,hL2⟩:=h2
 refine ⟨hc.trans' hc2 fun _ _ h=>h.elim,fun i=>if T2 i≠0 then T2 i+L.length else T i,fun i hi=>?_,fun k c hk=>?_⟩
 ·by_cases e:T2 i≠0
  ·exact ⟨fun hi=>((ht2 i e).1 (by have:=hc.size;omega)).elim,(ht2 i e).2⟩
  ·dsimp only at hi;rw[if_neg e]at hi
   exact ⟨(ht i hi).1,Nat.lt_of_lt_of_le (ht i hi).2 hc2.size⟩
 ·by_cases hkl:k<L.length
  ·rw[List.getElem?_append_left hkl]at hk
   refine c.keep (hL k c hk) hc2 (fun _ _ _=>id) fun i hi e=>?_
   dsimp only;rw[if_neg];exact e
   intro h0
   exact ((ht2 i h0).1 hi).elim
  ·rw[List.getElem?_append_right (by omega)]at hk
   refine c.keep (X:=noB) (hL2 _ c hk) (Chg.refl _ _) (fun _ _ _=>id) fun i hi e=>?_
   dsimp only;rw[if_pos (by omega)];omega
theorem St.take (h:St G W w L)(n:Nat):St G W w (L.take n):=by
 obtain ⟨hc,T,ht,hL⟩:=h
 refine ⟨hc,T,ht,fun k c hk=>hL k c ?_⟩
 rw[List.getElem?_take]at hk
 split at hk
 ·exact hk
 ·cases hk
theorem St.pick (h:St G W w L)(is:List Nat)(hnd:is.Nodup)(hL:is.map (fun i=>L[i]?)=L'.map some):St G W w L':=by
 obtain ⟨hc,T,ht,hk⟩:=h
 refine ⟨hc,fun i=>if T i=0 then 0 else if T i-1∈is then is.idxOf (T i-1)+1 else 0,fun i hi=>?_,fun k c hc'=>?_⟩
 ·refine ht i fun h0=>?_
  dsimp only at hi
  rw[if_pos h0]at hi
  exact hi rfl
 ·have h1:(is.map (fun i=>L[i]?))[k]?=some (some c):=by rw[hL,List.getElem?_map,hc'];rfl
  rw[List.getElem?_map]at h1
  cases hi:is[k]? with
  | none=>rw[hi]at h1;cases h1
  | some n=>
   rw[hi]at h1
   injection h1 with h1
   refine c.keep (X:=noB) (hk n c h1) (Chg.refl _ _) (fun _ _ _=>id) fun i _ e=>?_
   have hnm:n∈is:=List.mem_of_getElem? hi
   have hidx:is.idxOf n=k:=by
    have hkl:=(List.getElem?_eq_some_iff.1 hi).1
    have hke:=(List.getElem?_eq_some_iff.1 hi).2
    rw[←hke]
    exact hnd.idxOf_getElem k hkl
   have e':T i=n+1:=e
   simp only[e',Nat.add_sub_cancel,hnm,if_true,hidx]
   rw[if_neg (by omega)]
theorem St.push (h:St G W w L){c:Ch}(hc:c.ok w noB):St G W w (L++[c]):=by
 refine h.seq (w':=w) ⟨Chg.refl _ _,fun _=>0,fun i hi=>absurd rfl hi,fun k d hk=>?_⟩
 match k,hk with
 | 0,hk=>injection hk with hk;subst hk;exact c.keep hc (Chg.refl noB _) (fun _ _ _=>id) (fun _ _ h=>h.elim)
 | k+1,hk=>simp at hk
theorem St.merge (h:St G W w L){j k:Nat}{c d:Ch}(hj:L[j]?=some c)(hk:L[k]?=some d)(hjk:j≠k){e:Ch}(he:∀F F',c.ok w F→d.ok w F'→e.ok w (fun i=>F i∨F' i)):St G W w ((L.set j Ch.emp).set k e):=by
 obtain ⟨hc,T,ht,hL⟩:=h
 refine ⟨hc,fun i=>if T i=j+1 then k+1 else T i,fun i hi=>?_,fun n x hn=>?_⟩
 ·by_cases e:T i=j+1
  ·exact ht i (by omega)
  ·dsimp only at hi;rw[if_neg e]at hi;exact ht i hi
 ·rw[List.getElem?_set]at hn
  by_cases e1:k=n
  ·subst e1
   have hkl:=(List.getElem?_eq_some_iff.1 hk).1
   rw[if_pos rfl,if_pos (by simpa using hkl)]at hn
   injection hn with hn
   subst hn
   refine e.keep (X:=noB) (he _ _ (hL j c hj) (hL k d hk)) (Chg.refl _ _) (fun _ _ _=>id) fun i hi e=>?_
   rcases e with e|e
   ·dsimp only;rw[if_pos e]
   ·dsimp only;rw[if_neg (by omega)];exact e
  ·rw[if_neg e1,List.getElem?_set]at hn
   by_cases e2:j=n
   ·subst e2
    have hjl:=(List.getElem?_eq_some_iff.1 hj).1
    rw[if_pos rfl,if_pos hjl]at hn
    injection hn with hn
    subst hn;trivial
   ·rw[if_neg e2]at hn
    refine x.keep (X:=noB) (hL n x hn) (Chg.refl _ _) (fun _ _ _=>id) fun i hi e=>?_
    dsimp only;rw[if_neg (by omega)];exact e
theorem St.turn (h:St G W w L){k:Nat}{c d:Ch}(hk:L[k]?=some c)(hd:∀F,c.ok w F→d.ok w F):St G W w (L.set k d):=by
 obtain ⟨F,ho,_,hs⟩:=h.opn hk
 exact hs w d (Chg.refl _ _) (d.keep (hd F ho) (Chg.refl noB _) (fun _ _ _=>id) fun _ _ h=>Or.inl h)
end
def boxC (b:Nat)(t:TypeId)(cs:List Value):Ch where
 ok w F:=F b∧w.heap[b]?=some (.cells cs.toArray t (0,0))
 keep h hc hX hF:=by
  have hb:=(Array.getElem?_eq_some_iff.1 h.2).1
  exact ⟨hF _ hb h.1,(hc.block b hb (hX b hb h.1)).trans h.2⟩
def rowC (e:TypeId)(size:Nat)(a:Option Addr)(n c:Nat)(xs:List Value):Ch where
 ok w F:=w.ownsRow 0 e size (.slice a n c) n xs∧∀i,(Value.slice a n c).ownBlock=some i→F i
 keep h hc hX hF:=by
  have hb:=fun i hi=>(Zcf h.1 (k:=i) hi).2
  refine ⟨?_,fun i hi=>hF i (hb i hi) (h.2 i hi)⟩
  refine ⟨h.1.1,?_⟩
  rcases h.1.2 with h2|⟨g,cap,cur,hv,hbs,hg,hr⟩
  ·exact Or.inl h2
  ·refine Or.inr ⟨g,cap,cur,hv,hbs,?_,hr⟩
   have:=hb g (by rw[hv];rfl)
   rw[hc.block g this (hX g this (h.2 g (by rw[hv];rfl)))]
   exact hg
def mapC (P:Program){κ:Type}(Y:KeyT κ)(k e:TypeId)(v:Value)(n:Nat)(f:κ→Int):Ch where
 ok w F:=Zgp P Y k e w v n f∧∀i,v = .map (some i)→F i
 keep h hc hX hF:=⟨h.1.chg hc fun i hi=>hX i (h.1.lt hi) (h.2 i hi),fun i hi=>hF i (h.1.lt hi) (h.2 i hi)⟩
def Zeg (e:TypeId)(size:Nat)(vs:List Value)(xss:List (List Value)):Ch where
 ok w F:=vs.length=xss.length∧∀(i:Nat) v xs,vs[i]?=some v→xss[i]?=some xs→∃a n c,v = .slice a n c∧(rowC e size a n c xs).ok w F
 keep h hc hX hF:=⟨h.1,fun i v xs h1 h2=>by obtain ⟨a,n,c,hv,hr⟩:=h.2 i v xs h1 h2;exact ⟨a,n,c,hv,(rowC e size a n c xs).keep hr hc hX hF⟩⟩
def Zp (w:World)(b:Nat):Nat→List Value→Prop
 | _,[]=>True
 | j,v::r=>w.cell? ⟨b,j,none⟩=some v∧Zp w b (j+1) r
theorem Zva {w:World}{b:Nat}:∀{cs:List Value} {j:Nat},(∀i u,cs[i]?=some u→w.cell? ⟨b,j+i,none⟩=some u)→Zp w b j cs
 | [],_,_=>trivial
 | v::r,j,h=>⟨h 0 v rfl,Zva (cs:=r) (j:=j+1) fun i u hi=>by rw[show j+1+i=j+(i+1) by omega];exact h (i+1) u (by simpa using hi)⟩
section
variable {G:Nat→Prop} {W w w':World} {L L':List Ch}
theorem ZZ346 {b:Nat}{t:TypeId}{cs:List Value}{F:Nat→Prop}(h:(boxC b t cs).ok w F):Zp w b 0 cs∧(∀j,w.frozen? ⟨b,j,none⟩=false)∧b<w.heap.size:=by
 refine ⟨Zva fun i u hi=>?_,fun j=>?_,(Array.getElem?_eq_some_iff.1 h.2).1⟩
 ·simp only[World.cell?,h.2,Nat.zero_add]
  simpa using hi
 ·simp[World.frozen?,h.2]
theorem St.box (h:St G W w L)(k:Nat){b:Nat}{t:TypeId}{cs:List Value}(hk:L[k]?=some (boxC b t cs)):Zp w b 0 cs∧(∀j,w.frozen? ⟨b,j,none⟩=false)∧b<w.heap.size:=by
 obtain ⟨F,ho,_⟩:=h.get hk
 exact ZZ346 ho
theorem Zjr (w:World)(p:Addr)(u:Value):Chg (·=p.block) w (w.setCell p u):=(Chg.refl (fun x=>x=p.block) w).setCell (p:=p) (Or.inl rfl) u
theorem St.set (h:St G W w L)(k:Nat){b:Nat}{t:TypeId}{cs:List Value}(hk:L[k]?=some (boxC b t cs))(j:Nat)(u:Value):St G W (w.setCell ⟨b,j,none⟩ u) (L.set k (boxC b t (cs.set j u))):=by
 obtain ⟨F,ho,_,hs⟩:=h.opn hk
 refine hs _ _ ((Zjr _ _ _).mono fun i _ e=>by rw[e];exact ho.1) ⟨Or.inl ho.1,?_⟩
 rw[heap_setCell_same w b j cs.toArray t u ho.2,List.setIfInBounds_toArray]
theorem St.alloc (h:St G W w L)(cs:Array Value)(t:TypeId):St G W (w.alloc (.cells cs t)) (L++[boxC w.heap.size t cs.toList]):=by
 refine h.seq ⟨(Chg.refl _ _).alloc _,fun i=>if i=w.heap.size then 1 else 0,fun i hi=>?_,fun k d hk=>?_⟩
 ·by_cases e:i=w.heap.size
  ·subst e;exact ⟨fun h=>absurd h (Nat.lt_irrefl _),by simp⟩
  ·dsimp only at hi;rw[if_neg e]at hi;exact absurd rfl hi
 ·match k,hk with
  | 0,hk=>injection hk with hk;subst hk;exact ⟨by simp,by simpa using World.alloc_heap_new w _⟩
  | k+1,hk=>simp at hk
theorem St.map (h:St G W w L)(P:Program){κ:Type}(Y:KeyT κ)(k e:TypeId):St G W (w.alloc (.map #[] 0)) (L++[mapC P Y k e (.map (some w.heap.size)) 0 (fun _=>0)]):=by
 refine h.seq ⟨(Chg.refl _ _).alloc _,fun i=>if i=w.heap.size then 1 else 0,fun i hi=>?_,fun k d hk=>?_⟩
 ·by_cases e:i=w.heap.size
  ·subst e;exact ⟨fun h=>absurd h (Nat.lt_irrefl _),by simp⟩
  ·dsimp only at hi;rw[if_neg e]at hi;exact absurd rfl hi
 ·match k,hk with
  | 0,hk=>injection hk with hk;subst hk;exact ⟨Zgp.made _ _ _ _ _,fun i hi=>by injection hi with hi;injection hi with hi;simp[hi]⟩
  | k+1,hk=>simp at hk
theorem St.lit (h:St G W w L)(e:TypeId)(size n:Nat)(cs:Array Value)(hn:n≤maxLen)(hs:cs.size=n*size):St G W (w.alloc (.cells cs e)) (L++[rowC e size (some ⟨w.heap.size,0,none⟩) n n cs.toList]):=by
 refine h.seq ⟨(Chg.refl _ _).alloc _,fun i=>if i=w.heap.size then 1 else 0,fun i hi=>?_,fun k d hk=>?_⟩
 ·by_cases e:i=w.heap.size
  ·subst e;exact ⟨fun h=>absurd h (Nat.lt_irrefl _),by simp⟩
  ·dsimp only at hi;rw[if_neg e]at hi;exact absurd rfl hi
 ·match k,hk with
  | 0,hk=>injection hk with hk;subst hk;exact ⟨World.ownsRow_lit w cs n (Nat.zero_le _) hn hs,fun i hi=>by injection hi with hi;simp[←hi]⟩
  | k+1,hk=>simp at hk
theorem ZZ101 (w:World)(e:TypeId)(size:Nat)(F:Nat→Prop):(rowC e size none 0 0 []).ok w F:=⟨World.ownsRow_nil _ _ _ _,fun i hi=>by cases hi⟩
theorem St.nilRow (h:St G W w L)(e:TypeId)(size:Nat):St G W w (L++[rowC e size none 0 0 []]):=h.push (ZZ101 _ _ _ _)
theorem St.ofRow {e:TypeId}{size:Nat}{a:Option Addr}{n c:Nat}{xs:List Value}(hr:w'.ownsRow w.heap.size e size (.slice a n c) n xs)(hc:Chg noB w w'):St noB w w' [rowC e size a n c xs]:=by
 refine ⟨hc,fun i=>if (Value.slice a n c).ownBlock=some i then 1 else 0,fun i hi=>?_,fun k d hk=>?_⟩
 ·by_cases e:(Value.slice a n c).ownBlock=some i
  ·have:=Zcf hr e
   exact ⟨fun h=>by omega,this.2⟩
  ·dsimp only at hi;rw[if_neg e]at hi;exact absurd rfl hi
 ·match k,hk with
  | 0,hk=>
   injection hk with hk;subst hk
   refine ⟨⟨hr.1,?_⟩,fun i hi=>by dsimp only;rw[if_pos hi]⟩
   rcases hr.2 with h2|⟨g,cap,cur,hv,hb,hg,hrr⟩
   ·exact Or.inl h2
   ·exact Or.inr ⟨g,cap,cur,hv,Nat.zero_le _,hg,hrr⟩
  | k+1,hk=>simp at hk
theorem Zik {e:TypeId}{size:Nat}{a:Option Addr}{n c:Nat}{xs:List Value}{F:Nat→Prop}(h:(rowC e size a n c xs).ok w F){j:Nat}(hj:j<xs.length) :
  ∃g,a=some ⟨g,0,none⟩∧w.cell? ⟨g,j,none⟩=some xs[j]∧w.frozen? ⟨g,j,none⟩=false∧F g∧g<w.heap.size:=by
 rcases h.1.2 with ⟨h1,h2⟩|⟨g,cap,cur,hv,hb,hg,hn,hm,hs,ht⟩
 ·have:=h.1.1;rw[h2]at this;omega
 ·injection hv with hv
  refine ⟨g,hv,?_,?_,h.2 g (by rw[hv];rfl),(Array.getElem?_eq_some_iff.1 hg).1⟩
  ·have h3:cur.toList[j]?=some xs[j]:=by
    have h4:(cur.toList.take (n*size))[j]?=some xs[j]:=by rw[ht];exact List.getElem?_eq_getElem hj
    rw[List.getElem?_take]at h4
    split at h4
    ·exact h4
    ·cases h4
   simp[World.cell?,hg,←h3]
  ·simp[World.frozen?,hg]
theorem Zhw {e:TypeId}{size:Nat}{a:Option Addr}{n c:Nat}{xs:List Value}{F:Nat→Prop}(h:(rowC e size a n c xs).ok w F):xs.length=n*size∧n≤c∧c≤maxLen:=by
 refine ⟨h.1.1,?_⟩
 rcases h.1.2 with ⟨h1,h2⟩|⟨g,cap,cur,hv,hb,hg,hn,hm,hs,ht⟩
 ·injection h1 with _ h1 h3;subst h2 h3;exact ⟨Nat.le_refl _,by simp[maxLen]⟩
 ·injection hv with _ _ hv;subst hv;exact ⟨hn,hm⟩
theorem St.rowSize (h:St G W w L)(k:Nat){e:TypeId}{size:Nat}{a:Option Addr}{n c:Nat}{xs:List Value}(hk:L[k]?=some (rowC e size a n c xs)):xs.length=n*size∧n≤c∧c≤maxLen:=by
 obtain ⟨F,ho,_⟩:=h.get hk
 exact Zhw ho
theorem St.rowAt (h:St G W w L)(k:Nat){e:TypeId}{size:Nat}{a:Option Addr}{n c:Nat}{xs:List Value}(hk:L[k]?=some (rowC e size a n c xs)){j:Nat}(hj:j<xs.length) :
  ∃g,a=some ⟨g,0,none⟩∧w.cell? ⟨g,j,none⟩=some xs[j]∧w.frozen? ⟨g,j,none⟩=false:=by
 obtain ⟨F,ho,_⟩:=h.get hk
 obtain ⟨g,h1,h2,h3,_⟩:=Zik ho hj
 exact ⟨g,h1,h2,h3⟩
theorem St.setRow (h:St G W w L)(k:Nat){e:TypeId}{size g n c:Nat}{xs:List Value}(hk:L[k]?=some (rowC e size (some ⟨g,0,none⟩) n c xs))(j:Nat)(u:Value) :
  St G W (w.setCell ⟨g,j,none⟩ u) (L.set k (rowC e size (some ⟨g,0,none⟩) n c (xs.set j u))):=by
 obtain ⟨F,ho,_,hs⟩:=h.opn hk
 have hg:=ho.2 g rfl
 refine hs _ _ ((Zjr _ _ _).mono fun i _ e=>by rw[e];exact hg) ⟨(ho.1.stored j u).1,fun i hi=>Or.inl (ho.2 i hi)⟩
theorem Zi3 {e:TypeId}{size:Nat}{a:Option Addr}{n c:Nat}{xs:List Value}{vs:List Value}{xss:List (List Value)}{F F':Nat→Prop}(h:(rowC e size a n c xs).ok w F)(h':(Zeg e size vs xss).ok w F'):(Zeg e size (vs++[.slice a n c]) (xss++[xs])).ok w (fun i=>F i∨F' i):=by
 refine ⟨by simp[h'.1],fun i v ys h1 h2=>?_⟩
 by_cases hi:i<vs.length
 ·rw[List.getElem?_append_left hi]at h1
  rw[List.getElem?_append_left (by rw[←h'.1];exact hi)]at h2
  obtain ⟨a',n',c',hv,hr⟩:=h'.2 i v ys h1 h2
  exact ⟨a',n',c',hv,hr.1,fun j hj=>Or.inr (hr.2 j hj)⟩
 ·have hil:=(List.getElem?_eq_some_iff.1 h1).1
  simp at hil
  have hie:i=vs.length:=by omega
  subst hie
  rw[List.getElem?_append_right (Nat.le_refl _)]at h1
  rw[h'.1,List.getElem?_append_right (Nat.le_refl _)]at h2
  simp at h1 h2
  subst h1 h2
  exact ⟨a,n,c,rfl,h.1,fun j hj=>Or.inl (h.2 j hj)⟩
theorem St.appendN {P:Program}{X:Pan}{K:Value→World→Prop}(h:St G W w L)(k:Nat){t ty e:TypeId}{z:Value}{size bytes:Nat}{a0:Option Addr}{n c:Nat}{xs:List Value}(hk:L[k]?=some (rowC e size a0 n c xs))
  (ht:P.underlying t=some (.slice e)) (hi:(P.info? e).map (fun i=>(i.zero,i.size,i.bytes))=some (some z,size,bytes)) (hzs:z.cells.size=size) (hsz:0<size)
  {a:Addr} {m c1:Nat} {news:List Value} (hl:news.length=m*size) (hnews:∀j u,news[j]?=some u→w.cell? (a.add j)=some u) (h1:∀u∈news,u.oneCell'=true)
  (h63:n+m≤maxLen) (hbytes:(n+m)*bytes≤Zr)
  (hK:∀a' cap w',St G W w' (L.set k (rowC e size a' (n+m) cap (xs++news)))→(0<m→∃g,a'=some ⟨g,0,none⟩)→K (.slice a' (n+m) cap) w') :
  RES X ((Builtin.append_ #[t,t] ty #[.slice a0 n c,.slice (some a) m c1]).run P w) K:=by
 obtain ⟨i,hi,hz,hs1,hb1⟩:∃i,P.info? e=some i∧i.zero=some z∧i.size=size∧i.bytes=bytes:=by
  cases hq:P.info? e with
  | none=>rw[hq]at hi;cases hi
  | some i=>rw[hq]at hi;simp at hi;exact ⟨i,rfl,hi.1,hi.2.1,hi.2.2⟩
 obtain ⟨F,ho,hF,hs⟩:=h.opn hk
 obtain ⟨v',w',hrun,hown',hgr,hnil,hb⟩:=run_append_own_at (P:=P) w 0 t ty e i z size bytes ht hi hz hs1 hb1 hzs hsz _ n xs ho.1 a m c1 news hl hnews h1 h63 hbytes (Nat.zero_le _)
 rw[hrun,Zb9]
 have hc:Chg F w w':=⟨hgr.os,hgr.tape,hgr.output,hgr.size,fun j hj hF=>hgr.block j hj fun e=>hF (ho.2 j e.symm)⟩
 have hfin:∀a' cap,v' = .slice a' (n+m) cap→(0<m→∃g,a'=some ⟨g,0,none⟩)→K v' w':=by
  rintro a' cap rfl hm
  refine hK a' cap w' (hs w' _ hc ⟨hown',fun j hj=>?_⟩) hm
  rcases hb with hb|hb
  ·exact Or.inl (ho.2 j (hb ▸ hj))
  ·rw[hb]at hj;injection hj with hj
   have:=(Zcf hown' (k:=j) (by rw[hb,hj])).2
   exact Or.inr ⟨by omega,this⟩
 rcases hown'.2 with ⟨h1,h2⟩|⟨g,cap,cur,h1,_⟩
 ·exact hfin none 0 (by rw[h1,h2]) fun h=>by omega
 ·exact hfin _ cap h1 fun _=>⟨g,rfl⟩
theorem St.append1 {P:Program}{X:Pan}{K:Value→World→Prop}(h:St G W w L)(k:Nat){t ty e:TypeId}{z:Value}{size bytes:Nat}{a0:Option Addr}{n c:Nat}{xs:List Value}(hk:L[k]?=some (rowC e size a0 n c xs))
  (ht:P.underlying t=some (.slice e)) (hi:(P.info? e).map (fun i=>(i.zero,i.size,i.bytes))=some (some z,size,bytes)) (hzs:z.cells.size=size) (hsz:0<size)
  {c1:Nat} {news:List Value} (hl:news.length=size) (h1:∀u∈news,u.oneCell'=true)
  (h63:n+1≤maxLen) (hbytes:(n+1)*bytes≤Zr)
  (hK:∀g cap w',St G W w' (L.set k (rowC e size (some ⟨g,0,none⟩) (n+1) cap (xs++news)))→K (.slice (some ⟨g,0,none⟩) (n+1) cap) w') :
  RES X ((Builtin.append_ #[t,t] ty #[.slice a0 n c,.slice (some ⟨w.heap.size,0,none⟩) 1 c1]).run P (w.alloc (.cells news.toArray e))) K:=by
 have hc1:Chg noB w (w.alloc (.cells news.toArray e)):=(Chg.refl _ _).alloc _
 refine (h.old hc1).appendN k hk ht hi hzs hsz (by omega) (Ze9 w news e rfl) h1 h63 hbytes fun a' cap w' h' hm=>?_
 obtain ⟨g,rfl⟩:=hm (by omega)
 exact hK g cap w' h'
theorem St.append1d {P:Program}{X:Pan}{K:Value→World→Prop}(h:St G W w L)(k:Nat){t ty e:TypeId}{z:Value}{size bytes:Nat}{a0:Option Addr}{n c:Nat}{xs:List Value}(hk:L[k]?=some (rowC e size a0 n c xs))
  (ht:P.underlying t=some (.slice e)) (hi:(P.info? e).map (fun i=>(i.zero,i.size,i.bytes))=some (some z,size,bytes)) (hzs:z.cells.size=size) (hsz:0<size)
  {c1:Nat} {news:List Value} (hl:news.length=size) (h1:∀u∈news,u.oneCell'=true)
  (h63:n+1≤maxLen) (hbytes:(n+1)*bytes≤Zr)
  (hK:∀g cap w',St G W w' (L.set k (rowC e size (some ⟨g,0,none⟩) (n+1) cap (xs++news)))→K (.slice (some ⟨g,0,none⟩) (n+1) cap) w') :
  RES X ((Builtin.append_ #[t,t] ty #[.slice a0 n c,.slice (some ⟨w.heap.size,0,none⟩) 1 c1]).run P (w.alloc (.cells news.toArray e)).drew) K:=by
 have hc1:Chg noB w (w.alloc (.cells news.toArray e)).drew:=((Chg.refl _ _).alloc _).drew
 refine (h.old hc1).appendN k hk ht hi hzs hsz (by omega) (fun j u hj=>(Ze9 w news e rfl j u hj)) h1 h63 hbytes fun a' cap w' h' hm=>?_
 obtain ⟨g,rfl⟩:=hm (by omega)
 exact hK g cap w' h'
open Classical in
theorem St.mapSet {P:Program}{κ:Type}{Y:KeyT κ}{t kt e:TypeId}(M:Zm7 P Y t kt e)(h:St G W w L)(k:Nat){b n:Nat}{f:κ→Int}(hk:L[k]?=some (mapC P Y kt e (.map (some b)) n f))(a:κ)(ha:Y.good a)(hn:n<maxLen){x:Int}(hx:Zz x)(hx0:x≠0) :
  ∃w',(Instr.mapUpdate t (.map (some b)) (Y.val a) (.int .i64 x)).run P w = .ok () w'∧St G W w' (L.set k (mapC P Y kt e (.map (some b)) (if f a=0 then n+1 else n) (fun c=>if c=a then x else f c))):=by
 obtain ⟨F,ho,hF,hs⟩:=h.opn hk
 obtain ⟨w',hrun,hm,hg⟩:=ho.1.update M a ha hn hx hx0
 exact ⟨w',hrun,hs w' _ ⟨hg.os,hg.tape,hg.output,hg.size,fun j hj hF=>hg.block j hj fun e=>hF (ho.2 j (by injection e with e;rw[e]))⟩ ⟨hm,fun i hi=>Or.inl (ho.2 i hi)⟩⟩
theorem St.mapPut {P:Program}{κ:Type}{Y:KeyT κ}{t kt e:TypeId}(M:Zm7 P Y t kt e)(h:St G W w L)(k:Nat){b n:Nat}{f:κ→Int}(hk:L[k]?=some (mapC P Y kt e (.map (some b)) n f))(a:κ)(ha:Y.good a)(hn:n<maxLen){x:Int}(hx:Zz x)(hx0:x≠0)
  (n':Nat) (f':κ→Int) (h1:f a=0→n'=n+1) (h2:f a≠0→n'=n) (h3:f' a=x) (h4:∀c,c≠a→f' c=f c) :
  ∃w',(Instr.mapUpdate t (.map (some b)) (Y.val a) (.int .i64 x)).run P w = .ok () w'∧St G W w' (L.set k (mapC P Y kt e (.map (some b)) n' f')):=by
 obtain ⟨w',hrun,hst⟩:=h.mapSet M k hk a ha hn hx hx0
 refine ⟨w',hrun,?_⟩
 have e1:(if f a=0 then n+1 else n)=n':=by
  by_cases h0:f a=0
  ·rw[if_pos h0,h1 h0]
  ·rw[if_neg h0,h2 h0]
 have e2:(fun c=>@ite Int (c=a) (Classical.propDecidable _) x (f c))=f':=by
  funext c
  by_cases hc:c=a
  ·rw[if_pos hc,hc,h3]
  ·rw[if_neg hc,h4 c hc]
 rw[←e1,←e2]
 exact hst
theorem St.mapGet {P:Program}{κ:Type}{Y:KeyT κ}{t kt e:TypeId}(M:Zm7 P Y t kt e)(h:St G W w L)(k:Nat){v:Value}{n:Nat}{f:κ→Int}(hk:L[k]?=some (mapC P Y kt e v n f))(a:κ)(ha:Y.good a):(Instr.lookup t v (Y.val a) false).run P w = .ok (.int .i64 (f a)) w:=by
 obtain ⟨F,ho,_⟩:=h.get hk
 exact ho.1.lookup M a ha
end
theorem Zna {α:Type}{enc:α→List Value}{size:Nat}:∀{l:List α} {i:Nat} {x:α},(∀x∈l,(enc x).length=size)→l[i]?=some x→∀{j:Nat},j<size→(l.flatMap enc)[i*size+j]?=(enc x)[j]?
 | [],_,_,_,h,_,_=>by simp at h
 | y::l,0,x,hs,h,j,hj=>by
  simp at h;subst h
  rw[List.flatMap_cons,Nat.zero_mul,Nat.zero_add,List.getElem?_append_left (by rw[hs y (by simp)];exact hj)]
 | y::l,i+1,x,hs,h,j,hj=>by
  rw[List.flatMap_cons,List.getElem?_append_right (by rw[hs y (by simp),Nat.succ_mul];omega),hs y (by simp),Nat.succ_mul,show i*size+size+j-size=i*size+j by omega]
  exact Zna (fun z hz=>hs z (by simp[hz])) (by simpa using h) hj
theorem Zhl {α:Type}{enc:α→List Value}{w:World}{e:TypeId}{size:Nat}{a:Option Addr}{n c:Nat}{l:List α}{F:Nat→Prop}(h:(rowC e size a n c (l.flatMap enc)).ok w F)(hsz:∀x∈l,(enc x).length=size)(hpos:0<size){i:Nat}{x:α}(hi:l[i]?=some x) :
  ∃g,a=some ⟨g,0,none⟩∧(∀j u,(enc x)[j]?=some u→w.cell? ⟨g,i*size+j,none⟩=some u)∧(∀j,w.frozen? ⟨g,j,none⟩=false)∧F g∧g<w.heap.size:=by
 have hlt:∀j,j<size→i*size+j<(l.flatMap enc).length:=fun j hj=>by
  have h1:=Zna hsz hi hj
  have h2:(enc x)[j]?=some ((enc x)[j]'(by rw[hsz x (List.mem_of_getElem? hi)];exact hj)):=List.getElem?_eq_getElem _
  rw[h2]at h1
  exact (List.getElem?_eq_some_iff.1 h1).1
 obtain ⟨g,e1,_,_,hF,hg⟩:=Zik h (hlt 0 hpos)
 subst e1
 refine ⟨g,rfl,fun j u hj=>?_,fun j=>?_,hF,hg⟩
 ·have hjl:j<size:=by have:=(List.getElem?_eq_some_iff.1 hj).1;rwa [hsz x (List.mem_of_getElem? hi)]at this
  obtain ⟨g',e2,hc,_⟩:=Zik h (hlt j hjl)
  injection e2 with e2;injection e2 with e2;subst e2
  rw[hc,←List.getElem?_eq_getElem (hlt j hjl),Zna hsz hi hjl]
  exact hj
 ·rcases h.1.2 with ⟨h1,h2⟩|⟨g',cap,cur,hv,hb,hg',hn,hm,hs,ht⟩
  ·cases h1
  ·injection hv with hv;injection hv with hv;injection hv with hv;subst hv
   simp[World.frozen?,hg']
theorem fold2 (a b c d:Value):Array.foldl (fun (cs:Array Value) (x:Value×Nat)=>cs.setIfInBounds x.snd x.fst) #[a,b] (Value.agg #[c,d]).cells.zipIdx 0 2=#[c,d]:=rfl
theorem fold3 (a b c d e f:Value):Array.foldl (fun (cs:Array Value) (x:Value×Nat)=>cs.setIfInBounds x.snd x.fst) #[a,b,c] (Value.agg #[d,e,f]).cells.zipIdx 0 3=#[d,e,f]:=rfl
theorem fold4 (a b c d e f g h:Value):Array.foldl (fun (cs:Array Value) (x:Value×Nat)=>cs.setIfInBounds x.snd x.fst) #[a,b,c,d] (Value.agg #[e,f,g,h]).cells.zipIdx 0 4=#[e,f,g,h]:=rfl
theorem fold1 (A:Array Value)(v:Value):Array.foldl (fun (cs:Array Value) (x:Value×Nat)=>cs.setIfInBounds x.snd x.fst) A #[v].zipIdx 0 1=A.setIfInBounds 0 v:=rfl
theorem ZZ323 (A:Array Value)(k:Nat)(v:Value):Array.foldl (fun (cs:Array Value) (x:Value×Nat)=>cs.setIfInBounds (k+x.snd) x.fst) A #[v].zipIdx 0 1=A.setIfInBounds k v:=rfl
section
variable (a:Option Addr) (n c:Nat) (k:IntKind) (x:Int) (s:ByteArray) (b:Bool) (m:Option Nat)
theorem Ztt:(Value.slice a n c).cells=#[.slice a n c]:=rfl
theorem ZZ53:(Value.int k x).cells=#[.int k x]:=rfl
theorem Zlt:(Value.string s).cells=#[.string s]:=rfl
theorem Zxi:(Value.bool b).cells=#[.bool b]:=rfl
theorem Zy5:(Value.map m).cells=#[.map m]:=rfl
theorem Zqy:(Value.pointer a).cells=#[.pointer a]:=rfl
theorem Zq4 (z:Value):Array.foldl (fun (cs:Array Value) (x:Value×Nat)=>cs.setIfInBounds x.snd x.fst) #[z] (Value.string s).cells.zipIdx 0 1=#[(Value.string s)]:=rfl
theorem Zyo (z:Value):Array.foldl (fun (cs:Array Value) (x:Value×Nat)=>cs.setIfInBounds x.snd x.fst) #[z] (Value.int k x).cells.zipIdx 0 1=#[(Value.int k x)]:=rfl
theorem Zt3 (z:Value):Array.foldl (fun (cs:Array Value) (x:Value×Nat)=>cs.setIfInBounds x.snd x.fst) #[z] (Value.slice a n c).cells.zipIdx 0 1=#[(Value.slice a n c)]:=rfl
theorem Zwz (z:Value):Array.foldl (fun (cs:Array Value) (x:Value×Nat)=>cs.setIfInBounds x.snd x.fst) #[z] (Value.bool b).cells.zipIdx 0 1=#[(Value.bool b)]:=rfl
end
attribute [go_sem] Zq4 Zyo Zt3 Zwz
attribute [go_sem] fold1 ZZ323 Ztt ZZ53 Zlt Zxi Zy5 Zqy
attribute [go_sem] fold2 fold3 fold4
end Go.Px
namespace Go.Px
open Go.RowKit
set_option linter.unusedSectionVars false
def Zt1 (P:Program){κ:Type}(Y:KeyT κ)(k e:TypeId)(v:Value)(n:Nat)(f:κ→Option Int):Ch where
 ok w F:=∃b,v = .map (some b)∧F b∧∃D:DataW Unit,w.ownsMap P k (plainElem P e) b n D∧(∀a:κ,D.atKey (Y.lit a) (.lit (.int .i64 0)) = .lit (.int .i64 ((f a).getD 0)))∧∀a:κ,Maps.has D (Y.lit a)=(f a).isSome
 keep h hc hX hF:=by
  obtain ⟨b,hv,hb,D,hD,r⟩:=h
  have hlt:=hD.lt
  refine ⟨b,hv,hF b hlt hb,D,?_,r⟩
  obtain ⟨es,clock,hb',h2⟩:=hD
  exact ⟨es,clock,(hc.block b hlt (hX b hlt hb)).trans hb',h2⟩
section
variable {G:Nat→Prop} {W w w':World} {L:List Ch}
theorem St.mapO (h:St G W w L)(P:Program){κ:Type}(Y:KeyT κ)(k e:TypeId):St G W (w.alloc (.map #[] 0)) (L++[Zt1 P Y k e (.map (some w.heap.size)) 0 (fun _=>none)]):=by
 refine h.seq ⟨(Chg.refl _ _).alloc _,fun i=>if i=w.heap.size then 1 else 0,fun i hi=>?_,fun j c hj=>?_⟩
 ·by_cases e:i=w.heap.size
  ·subst e;exact ⟨fun h=>absurd h (Nat.lt_irrefl _),by simp⟩
  ·dsimp only at hi;rw[if_neg e]at hi;exact absurd rfl hi
 ·match j,hj with
  | 0,hj=>
   injection hj with hj;subst hj
   exact ⟨_,rfl,by simp,_,World.ownsMap_made w P k _,fun _=>rfl,fun _=>rfl⟩
  | j+1,hj=>simp at hj
theorem St.mapOPut {P:Program}{κ:Type}{Y:KeyT κ}{t kt e:TypeId}(M:Zm7 P Y t kt e)(h:St G W w L)(k:Nat){v:Value}{n:Nat}{f:κ→Option Int}(hk:L[k]?=some (Zt1 P Y kt e v n f))(a:κ)(ha:Y.good a)(hn:n<maxLen){x:Int}(hx:Zz x)
  (f':κ→Option Int) (h3:f' a=some x) (h4:∀c,c≠a→f' c=f c) :
  ∃w',(Instr.mapUpdate t v (Y.val a) (.int .i64 x)).run P w = .ok () w'∧St G W w' (L.set k (Zt1 P Y kt e v (n+1) f')):=by
 obtain ⟨F,⟨b,rfl,hb,D,hD,hat,hhas⟩,hF,hs⟩:=h.opn hk
 have hwf:(Lit.int .i64 x).wf=true:=by
  have hm:IntKind.i64.min = -9223372036854775808:=by decide
  obtain ⟨h1,h2⟩:=hx
  simp[Lit.wf,hm]
  omega
 obtain ⟨w',hrun,hown,hg⟩:=hD.update M.keyed M.tm hn (M.key a ha) (plainElem_int (H:=Unit) (P:=P) M.te hwf)
 refine ⟨w',hrun,hs w' _ ⟨hg.os,hg.tape,hg.output,hg.size,fun j hj hF=>hg.block j hj fun e=>hF (by injection e with e;rw[e];exact hb)⟩ ⟨b,rfl,Or.inl hb,_,hown,fun c=>?_,fun c=>?_⟩⟩
 ·by_cases hca:c=a
  ·subst hca
   rw[Maps.atKey_put_same hD.isMap (Y.isLit c),h3];rfl
  ·rw[Maps.atKey_put_other (fun e=>hca (Y.inj e)),hat c,h4 c hca]
 ·by_cases hca:c=a
  ·subst hca
   rw[Maps.has_put_same hD.isMap (Y.isLit c),h3];rfl
  ·rw[Maps.has_put_other (fun e=>hca (Y.inj e)),hhas c,h4 c hca]
theorem St.mapOGet {P:Program}{κ:Type}{Y:KeyT κ}{t kt e:TypeId}(M:Zm7 P Y t kt e)(h:St G W w L)(k:Nat){v:Value}{n:Nat}{f:κ→Option Int}(hk:L[k]?=some (Zt1 P Y kt e v n f))(a:κ)(ha:Y.good a) :
  (Instr.lookup t v (Y.val a) true).run P w = .ok (.tuple #[.int .i64 ((f a).getD 0),.bool (f a).isSome]) w:=by
 obtain ⟨F,⟨b,rfl,hb,D,hD,hat,hhas⟩,_⟩:=h.get hk
 obtain ⟨v,ps,hrun,hv⟩:=hD.look_ok M.keyed M.tm (M.zero w) (plainElem_int (H:=Unit) (P:=P) (a:=0) M.te (by decide)) (M.key a ha)
 obtain ⟨c,rfl,hc,_⟩:=plainElem_int_inv M.te hv
 have hc:=congrArg Prod.fst hc
 rw[hat a]at hc
 injection hc with hc
 injection hc with _ hc
 rw[hrun,hhas a,hc]
end
end Go.Px
namespace Go.Px
open Go.RowKit
def SeqC {α:Type}(P:Program)(gf:Nat)(lb:Array Value)(encs:α→Array Value)(B kb:Nat)(S Sp Ok:List α→Prop)(w0:World):Prop :=
 ∀(l:Nat) (J Jx:List α→World→Prop) (W:World),Chg (fun _=>False) w0 W →
  (∀s A A',W.heap.size≤A.heap.size→J s A→Chg (fun i=>W.heap.size≤i∧i<W.heap.size+kb) A A'→J s A') →
  (∀s A A',W.heap.size≤A.heap.size→Jx s A→Chg (fun i=>W.heap.size≤i∧i<W.heap.size+kb) A A'→Jx s A') →
  (∀pre x W1,W.heap.size+kb≤W1.heap.size→J pre W1→Ok (pre++[x])→YieldAt Fence.wide 0 P l (encs x) W1 fun e W'=>
   (e = .returned (.bool true)∧J (pre++[x]) W'∧Chg (fun i=>B≤i∧¬(W.heap.size≤i∧i<W.heap.size+kb)) W1 W')∨(e = .returned (.bool false)∧Jx (pre++[x]) W'∧Chg (fun i=>B≤i∧¬(W.heap.size≤i∧i<W.heap.size+kb)) W1 W')) →
  J [] W →
  Calls P gf (#[.func (.yield l) #[] #[]]++lb) W fun e W'=>(∃v,e = .returned v)∧W.heap.size≤W'.heap.size∧((∃xs,S xs∧J xs W')∨(∃pre,Sp pre∧Jx pre W'))
def postC {α:Type}(B kb n:Nat)(I:List α→World→Prop)(Ix:Code→List α→World→Prop)(xs:List α)(W:World):Exit→Act→World→Prop
 | .normal,_,W'=>Chg (fun i=>B≤i∧¬(n≤i∧i<n+2+kb)) W W'∧I xs W'
 | .ret,_,W'=>Chg (fun i=>B≤i∧¬(n≤i∧i<n+2+kb)) W W'∧Ix .ret xs W'
 | .exit id,_,W'=>Chg (fun i=>B≤i∧¬(n≤i∧i<n+2+kb)) W W'∧Ix (.exit id) xs W'
 | .goto t,_,W'=>Chg (fun i=>B≤i∧¬(n≤i∧i<n+2+kb)) W W'∧Ix (.goto t) xs W'
 | .panic _,_,_=>False
 | .outgrown,_,_=>False
theorem Zd2 {F:Nat→Prop}{W:World}{l:Nat}(o:Obj)(hF:F l):Chg F W (W.putObj l o):=Zgd (grownBy_putObj' W l o) fun k e=>by cases e;exact hF
theorem ZZ318 {α:Type}{P:Program}{g:Operand}{ps:Array Tmp}{assign body:Code}{Q:Exit→Act→World→Prop}{a:Act}{w:World}
  {gf:Nat} {lb:Array Value} (hg:a.eval g = .func (.func gf) #[] lb) (eg:∀args w,(callFunc gf args).run P w = .ok (.enter gf args) w)
  {encs:α→Array Value} {B kb:Nat} {S Sp Ok:List α→Prop} (hseq:SeqC P gf lb encs B kb S Sp Ok w) (hB:B≤w.heap.size) (hps:∀x,(encs x).size=ps.size)
  (I:List α→World→Prop) (Ix:Code→List α→World→Prop) (hI:∀s A A',w.heap.size≤A.heap.size→I s A→Chg (fun i=>w.heap.size≤i∧i<w.heap.size+2+kb) A A'→I s A')
  (hIx:∀c s A A',w.heap.size≤A.heap.size→Ix c s A→Chg (fun i=>w.heap.size≤i∧i<w.heap.size+2+kb) A A'→Ix c s A') (h0:I [] w) (A:List α→α→Act→World→Prop) (hA:∀pre x a s s',w.heap.size≤s.heap.size→A pre x a s→Chg (fun i=>w.heap.size≤i∧i<w.heap.size+2+kb) s s'→A pre x a s')
  (hassign:∀(l:Nat) (pre:List α) (x:α) (W:World) (K:Act→World→Prop),w.heap.size+2+kb≤W.heap.size→I pre W→Ok (pre++[x])→(∀a₁ W₁,Chg (fun i=>B≤i∧¬(w.heap.size≤i∧i<w.heap.size+2+kb)) W W₁→A pre x a₁ W₁→K a₁ W₁) →
   assign.wpIn (Fence.wide.inRound l) 0 P (Exit.then K (fun _ _ _=>False)) {tmps:=(ps.zip (encs x)).foldl (fun t (p,v)=>t.setIfInBounds p v) a.tmps,defers:=[] } W)
  (hbody:∀(l:Nat) (pre:List α) (x:α) (a₁:Act) (W:World),w.heap.size+2+kb≤W.heap.size→A pre x a₁ W→Ok (pre++[x])→body.wpIn (Fence.wide.inRound l) 0 P (postC B kb w.heap.size I Ix (pre++[x]) W) a₁ W)
  (hdone:∀(D:Nat) (xs:List α) (W:World),D=w.heap.size→w.heap.size≤W.heap.size→S xs→I xs W→W.heap[D]?=some (.deferred (some []))→Q .normal {a with defers:={target := .collected D,args:=#[] }::a.defers } W)
  (hstop:∀(D:Nat) (c:Code) (pre:List α) (W:World),D=w.heap.size→w.heap.size≤W.heap.size→Sp pre→Ix c pre W→W.heap[D]?=some (.deferred (some []))→c.wp P Q {a with defers:={target := .collected D,args:=#[] }::a.defers } W) :
  (Code.rangeFunc g ps assign body).wp P Q a w:=by
 refine wpIn_wide (n:=0).1 (wpIn_rangeFunc ?_)
 intro fn hfn
 obtain ⟨rec,hrec⟩:∃rec:LoopState→Option Code→Loop,rec=fun st pe=>{state:=st,pending:=pe,fn,tmps:=a.tmps,params:=ps,assign,body,defers:=w.heap.size }:=⟨_,rfl⟩
 obtain ⟨W1,hW1⟩:∃W1,(w.alloc (.deferred (some []))).alloc (.loop (rec .ready none))=W1:=⟨_,rfl⟩
 have hL1:W1.heap[w.heap.size+1]?=some (.loop (rec .ready none)):=by
  rw[←hW1];have:=World.alloc_heap_new (w.alloc (.deferred (some []))) (.loop (rec .ready none));rwa [World.size_alloc]at this
 have hK1:W1.heap[w.heap.size]?=some (.deferred (some [])):=by
  rw[←hW1];exact (Below.heap_alloc _ _ _ (by simp)).trans (World.alloc_heap_new w _)
 have hc1:Chg (fun _=>False) w W1:=by rw[←hW1];exact ((Chg.refl _ _).alloc _).alloc _
 have hI1:I [] W1:=hI _ _ _ (Nat.le_refl _) h0 (hc1.mono fun _ _ h=>h.elim)
 have hs1:W1.heap.size=w.heap.size+2:=by rw[←hW1];simp
 refine ⟨w.heap.size+1,[{target := .collected w.heap.size,args:=#[] }],W1,{target := .fn (.func gf) lb,args:=#[.func (.yield (w.heap.size+1)) #[] #[]] },W1,gf,
  #[.func (.yield (w.heap.size+1)) #[] #[]]++lb,W1,?_,?_,?_,?_,fun h=>by simp[Fence.wide]at h,?_⟩
 ·rw[←hW1,hrec];exact run_enterLoop_outer _ _ _ _ _
 ·simp only[resolve,hg]
  simp[go_sem]
 ·intro f' hf';exact trivial
 ·simp[invoke,go_sem,eg]
 ·have keep:∀{A A':World} {i:Nat} {o:Obj},Chg (fun i=>W1.heap.size≤i∧i<W1.heap.size+kb) A A'→i<W1.heap.size→A.heap[i]?=some o→A'.heap[i]?=some o:=fun hc hi ho=>
   (hc.block _ (Array.getElem?_eq_some_iff.1 ho).1 (by omega)).trans ho
  refine callsIn_wide.2 ((hseq (w.heap.size+1)
   (fun pre W=>I pre W∧W.heap[w.heap.size+1]?=some (.loop (rec .ready none))∧W.heap[w.heap.size]?=some (.deferred (some [])))
   (fun pre W=>∃c,Ix c pre W∧W.heap[w.heap.size+1]?=some (.loop (rec .done (some c)))∧W.heap[w.heap.size]?=some (.deferred (some [])))
   W1 hc1
   (fun s A A' hA hs hc=>⟨hI s A A' (by omega) hs.1 (hc.mono fun i _ h=>by omega),keep hc (by omega) hs.2.1,keep hc (by omega) hs.2.2⟩)
   (fun s A A' hA hs hc=>by
    obtain ⟨c,h1,hl,hk⟩:=hs
    exact ⟨c,hIx c s A A' (by omega) h1 (hc.mono fun i _ h=>by omega),keep hc (by omega) hl,keep hc (by omega) hk⟩)
   ?_ ⟨hI1,hL1,hK1⟩).mono ?_)
  ·rintro pre x W hsW ⟨hi,hl,hk⟩ hlen
   have hlt:w.heap.size+1<W.heap.size:=(Array.getElem?_eq_some_iff.1 hl).1
   have hy:=run_yield (P:=P) (args:=encs x) hl (by rw[hrec];exact hps x)
   rw[hrec]at hy
   refine ⟨fn,_,assign,body,hy,roundIn_of_wpIn hfn (hassign _ pre x W _ (by omega) hi hlen fun a₁ W' hcA hA1=>?_)⟩
   have hl':W'.heap[w.heap.size+1]?=some (.loop (rec .ready none)):=(hcA.block _ (by omega) (by omega)).trans hl
   have hk':W'.heap[w.heap.size]?=some (.deferred (some [])):=(hcA.block _ (by omega) (by omega)).trans hk
   have hcA':Chg (fun i=>B≤i∧¬(W1.heap.size≤i∧i<W1.heap.size+kb)) W W':=hcA.mono fun i _ h=>⟨h.1,by omega⟩
   have hsW':=hcA.size
   refine ⟨_,run_beginRound hl' (by rw[hrec]),?_⟩
   clear hi hl hk
   replace hl:=hl'
   replace hk:=hk'
   have hlt:w.heap.size+1<W'.heap.size:=by omega
   have hl2:(W'.putObj (w.heap.size+1) (.loop {rec .ready none with state := .busy })).heap[w.heap.size+1]?=some (.loop {rec .ready none with state := .busy }):=World.putObj_heap_same hlt
   have hk2:(W'.putObj (w.heap.size+1) (.loop {rec .ready none with state := .busy })).heap[w.heap.size]?=some (.deferred (some [])):=(World.putObj_heap_other (by omega)).trans hk
   have hw2:Chg (fun i=>B≤i∧¬(W1.heap.size≤i∧i<W1.heap.size+kb)) W (W'.putObj (w.heap.size+1) (.loop {rec .ready none with state := .busy })):=hcA'.trans (Zd2 _ ⟨by omega,by omega⟩)
   have hw2s:=hw2.size
   refine wpIn_mono (hbody _ pre x a₁ _ (by simp;omega) (hA _ _ _ _ _ (by omega) hA1 (Zd2 _ (by omega))) hlen) ?_
   have fin:∀(jump:Option Code) (W3:World),Chg (fun i=>B≤i∧¬(w.heap.size≤i∧i<w.heap.size+2+kb)) (W'.putObj (w.heap.size+1) (.loop {rec .ready none with state := .busy })) W3 →
     (Instr.endRound (w.heap.size+1) jump).run P W3 = .ok (.bool jump.isNone) (W3.putObj (w.heap.size+1) (.loop (rec (if jump.isNone then .ready else .done) jump))) ∧
     W3.heap[w.heap.size+1]?=some (.loop {rec .ready none with state := .busy }) ∧
     (W3.putObj (w.heap.size+1) (.loop (rec (if jump.isNone then .ready else .done) jump))).heap[w.heap.size+1]?=some (.loop (rec (if jump.isNone then .ready else .done) jump)) ∧
     (W3.putObj (w.heap.size+1) (.loop (rec (if jump.isNone then .ready else .done) jump))).heap[w.heap.size]?=some (.deferred (some [])) ∧
     Chg (fun i=>B≤i∧¬(W1.heap.size≤i∧i<W1.heap.size+kb)) W (W3.putObj (w.heap.size+1) (.loop (rec (if jump.isNone then .ready else .done) jump)))∧w.heap.size≤W3.heap.size:=fun jump W3 hk3=>by
    have hl3:=(hk3.block _ (by omega) (by omega)).trans hl2
    have hkk:=(hk3.block _ (by omega) (by omega)).trans hk2
    have:=run_endRound (P:=P) jump hl3
    rw[hrec]at this ⊢
    exact ⟨this,by rw[hrec]at hl3;exact hl3,World.putObj_heap_same (Array.getElem?_eq_some_iff.1 hl3).1,(World.putObj_heap_other (by omega)).trans hkk,(hw2.trans' hk3 (fun i _ h=>⟨h.1,by omega⟩)).trans (Zd2 _ ⟨by omega,by omega⟩),by have:=hk3.size;omega⟩
   rintro e a3 W3 hp
   cases e with
   | normal=>
    obtain ⟨hk3,hi3⟩:=hp
    obtain ⟨hr,hl3,hl4,hk4,hc4,hs3⟩:=fin none W3 hk3
    exact ⟨_,_,hr,.inl ⟨rfl,⟨hI _ _ _ hs3 hi3 (Zd2 _ (by omega)),hl4,hk4⟩,hc4⟩⟩
   | ret=>
    obtain ⟨hk3,hi3⟩:=hp
    obtain ⟨hr,hl3,hl4,hk4,hc4,hs3⟩:=fin (some .ret) W3 hk3
    exact ⟨_,_,hr,.inr ⟨rfl,⟨.ret,hIx _ _ _ _ hs3 hi3 (Zd2 _ (by omega)),hl4,hk4⟩,hc4⟩⟩
   | exit id=>
    obtain ⟨hk3,hi3⟩:=hp
    obtain ⟨hr,hl3,hl4,hk4,hc4,hs3⟩:=fin (some (.exit id)) W3 hk3
    exact ⟨_,_,hr,.inr ⟨rfl,⟨.exit id,hIx _ _ _ _ hs3 hi3 (Zd2 _ (by omega)),hl4,hk4⟩,hc4⟩⟩
   | goto t=>
    obtain ⟨hk3,hi3⟩:=hp
    obtain ⟨hr,hl3,hl4,hk4,hc4,hs3⟩:=fin (some (.goto t)) W3 hk3
    exact ⟨_,_,hr,.inr ⟨rfl,⟨.goto t,hIx _ _ _ _ hs3 hi3 (Zd2 _ (by omega)),hl4,hk4⟩,hc4⟩⟩
   | panic ch=>exact hp.elim
   | outgrown=>exact hp.elim
  ·rintro e W2 ⟨⟨v,rfl⟩,hs2,(⟨xs,hS,hi,hl,hk⟩|⟨pre,hSp,c,hi,hl,hk⟩)⟩
   ·exact ⟨none,_,by have:=run_endLoop (P:=P) hl (by rw[hrec];simp);rw[hrec]at this;exact this,hdone _ xs _ rfl (by simp;omega) hS (hI _ _ _ (by omega) hi (Zd2 _ (by omega))) ((World.putObj_heap_other (by omega)).trans hk)⟩
   ·exact ⟨some c,_,by have:=run_endLoop (P:=P) hl (by rw[hrec];simp);rw[hrec]at this;exact this,wpIn_wide.2 (hstop _ c pre _ rfl (by simp;omega) hSp (hIx c _ _ _ (by omega) hi (Zd2 _ (by omega))) ((World.putObj_heap_other (by omega)).trans hk))⟩
end Go.Px
namespace Go.Px
open Go.RowKit
def Zln (o:Oper):Bool:=match o.op with | .defer _=>false | _=>true
theorem Zls {o:Oper}(h:Zln o=true):∀c,o.op ≠ .defer c:=by
 intro c hc
 unfold Zln at h
 rw[hc]at h
 cases h
def Zhc:Code→Bool
 | .region _ ops _=>ops.toList.all Zln
 | .seq a b=>Zhc a && Zhc b
 | .cond _ x y=>Zhc x && Zhc y
 | .block _ b=>Zhc b
 | .loop b=>Zhc b
 | .scope _=>false
 | .rangeFunc ..=>false
 | _=>true
def rngB:Code→Code | .rangeFunc _ _ _ b=>b | c=>c
def rngA:Code→Code | .rangeFunc _ _ a _=>a | c=>c
theorem Zq2:∀{l:List (Nat×(Env→World→Prop))} {id:Nat} {ρ:Env} {w:World},look l id ρ w→∃q,(id,q)∈l∧q ρ w
 | [],_,_,_,h=>h.elim
 | (k,q)::l,id,ρ,w,h=>by
  unfold look at h
  cases hb:Nat.beq k id with
  | true=>
   rw[hb]at h
   have:=Nat.eq_of_beq_eq_true hb
   subst this
   exact ⟨q,by simp,h⟩
  | false=>
   rw[hb]at h
   obtain ⟨q',hm,hq⟩:=Zq2 h
   exact ⟨q',by simp[hm],hq⟩
section
variable {P:Program} {l:Nat} {ops:Array Oper} {Q:Exit→Act→World→Prop}
theorem Zlx {o:Oper}(hnd:∀c,o.op ≠ .defer c){a:Act}{w:World}{K:Act→World→Prop}(h:o.wpIn Fence.wide 0 P a w K Q):o.wpIn (Fence.wide.inRound l) 0 P a w K Q:=by
 refine ⟨h.1,?_⟩
 have h2:=h.2
 rw[Oper.semAt_eq _ _ _ hnd]at h2 ⊢
 exact h2
theorem Zgt:∀(os:List Oper) (a:Act) (w:World),(∀o∈os,Zln o=true)→wpListIn Fence.wide 0 P ops Q os a w→wpListIn (Fence.wide.inRound l) 0 P ops Q os a w
 | [],_,_,_,h=>h
 | o::os,a,w,hn,h=>by
  unfold wpListIn at h ⊢
  split at h
  ·rename_i hw
   rw[if_pos hw]
   exact Zlx (Zls (hn o (by simp))) (Oper.wpIn_mono (fun a w h=>Zgt os a w (fun o ho=>hn o (by simp[ho])) h) h)
  ·rename_i hw
   rw[if_neg hw]
   exact ⟨h.1,Zgt os _ w (fun o ho=>hn o (by simp[ho])) h.2⟩
theorem Zfw (hQ:¬LetsOut Q)(hn:∀o∈ops.toList,Zln o=true):∀(n:Nat) (L:Array Bool) (a:Act) (w:World),wpAny P .any ops Q n L a w→wpAnyIn (Fence.wide.inRound l) 0 P .any ops Q n L a w
 | 0,_,_,_,h=>h
 | n+1,L,a,w,h=>by
  refine ⟨h.1,fun i hi=>?_⟩
  have h2:=h.2 i hi
  unfold wpOp at h2
  unfold wpOpIn
  cases ho:ops[i]? with
  | none=>rw[ho]at h2;exact Zfw hQ hn n _ a w h2
  | some o=>
   rw[ho]at h2
   simp only at h2 ⊢
   have hno:=Zls (hn o (List.mem_of_getElem? (by rw[Array.getElem?_toList];exact ho)))
   split at h2
   ·rename_i hw
    rw[if_pos hw]
    rcases h2 with h2|h2
    ·refine Zlx hno (Oper.wpIn_mono (fun a w h=>Zfw hQ hn n _ a w h) ⟨fun f _=>trivial,?_⟩)
     rw[show Fence.wide.round=none from rfl,Oper.semAt_none]
     exact Zgu h2
    ·exact absurd h2.2 hQ
   ·rename_i hw
    rw[if_neg hw]
    exact ⟨fun f _=>trivial,Zfw hQ hn n _ _ w h2⟩
theorem Zoo {X:Pan}{N:Nat}(hm:P.follows .mixedOrders=true):∀(c:Code) (Q:Exit→Env→World→Prop) (ρ:Env) (a:Act) (w:World),(∀ρ w,¬Q .outgrown ρ w)→codeOk N c=true→Zhc c=true→Rel N a ρ→Zcy P X c Q ρ w →
  c.wpIn (Fence.wide.inRound l) 0 P (post X N Q) a w:=by
 intro c
 induction c with
 | skip=>intro Q ρ a w _ _ _ hr h;exact wpIn_skip ⟨ρ,hr,h⟩
 | label l=>intro Q ρ a w _ _ _ hr h;exact wpIn_label ⟨ρ,hr,h⟩
 | exit id=>intro Q ρ a w _ _ _ hr h;exact wpIn_exit ⟨ρ,hr,h⟩
 | ret=>intro Q ρ a w _ _ _ hr h;exact wpIn_ret ⟨ρ,hr,h⟩
 | goto l=>intro Q ρ a w _ _ _ hr h;exact wpIn_goto ⟨ρ,hr,h⟩
 | region id ops d=>
  intro Q ρ a w hno hok hokR hr h
  have hnd:∀o∈ops.toList,Zln o=true:=fun o ho=>List.all_eq_true.1 hokR o ho
  cases d with
  | false=>
   refine wpIn_region_list (Zgt _ _ _ hnd ?_)
   exact Zpe (Q:=post X N Q) (fun _ _ _ hd hx=>⟨hd,hx⟩) hok (fun a ρ w hr hk=>⟨ρ,hr,hk⟩) _ _ _ _ _ (fun o ho=>List.all_eq_true.1 hok o ho) hr h
  | true=>
   refine wpIn_region_any hm (Zfw ?_ hnd _ _ _ _ (Zlb _ _ [] _ _ ?_))
   ·rintro ⟨a,w,ρ,_,h⟩;exact hno ρ w h
   ·exact Zom (Q:=post X N Q) (fun _ _ _ hd hx=>⟨hd,hx⟩) (fun _ _ _ _ hd hx=>⟨hd.trans hx.1,hx.2⟩) hok (fun a ρ w hr hk=>⟨ρ,hr,hk⟩) _ _ _ _ _ _ (Zmj _) (fun γ hγ=>by cases hγ) hr h
 | seq x y ihx ihy=>
  intro Q ρ a w hno hok hokR hr h
  simp only[codeOk,Zhc,Bool.and_eq_true]at hok hokR
  refine wpIn_seq (wpIn_mono (ihx (thenE (Zcy P X y Q) Q) _ _ _ (fun ρ w h=>hno ρ w h) hok.1 hokR.1 hr h) fun e a' w' hq=>?_)
  cases e with
  | normal=>obtain ⟨ρ',hr',hq'⟩:=hq;exact ihy _ _ _ _ hno hok.2 hokR.2 hr' hq'
  | panic ch=>exact hq
  | _=>exact hq
 | cond c x y ihx ihy=>
  intro Q ρ a w hno hok hokR hr h
  simp only[codeOk,Zhc,Bool.and_eq_true]at hok hokR
  obtain ⟨b,hb,hq⟩:=Zek h
  refine wpIn_cond (t:=b) (by rw[hr.eval];exact hb) ?_
  cases b with
  | true=>exact ihx _ _ _ _ hno hok.1 hokR.1 hr hq
  | false=>exact ihy _ _ _ _ hno hok.2 hokR.2 hr hq
 | block id b ih=>
  intro Q ρ a w hno hok hokR hr h
  refine wpIn_block (wpIn_mono (ih (Zpj id Q) _ _ _ (fun ρ w h=>hno ρ w h) hok hokR hr h) fun e a' w' hq=>?_)
  cases e with
  | exit k=>
   obtain ⟨ρ',hr',hq'⟩:=hq
   simp only[Zpj]at hq'
   simp only[Exit.inBlock]
   by_cases hk:k=id
   ·subst hk
    rw[if_pos rfl]
    have:Nat.beq k k=true:=by simp
    rw[this]at hq'
    exact ⟨ρ',hr',hq'⟩
   ·rw[if_neg hk]
    have:Nat.beq k id=false:=by
     cases hh:Nat.beq k id with
     | false=>rfl
     | true=>exact absurd (Nat.eq_of_beq_eq_true hh) hk
    rw[this]at hq'
    exact ⟨ρ',hr',hq'⟩
  | panic ch=>exact hq
  | _=>exact hq
 | loop b ih=>
  intro Q ρ a w hno hok hokR hr h
  obtain ⟨I,μ,h0,hround⟩:=h
  refine wpIn_loop (fun a' w'=>∃ρ',Rel N a' ρ'∧I ρ' w') (fun a' w'=>μ (fun n=>a'.tmps.getD n undef) w') ⟨ρ,hr,h0⟩ ?_
  rintro a' w' ⟨ρ',hr',hI⟩
  have hρ:∀{a:Act} {ρ:Env},Rel N a ρ→(fun n=>a.tmps.getD n undef)=ρ:=fun h=>funext h.get
  refine wpIn_mono (ih (thenE (fun ρ'' w''=>I ρ'' w''∧μ ρ'' w''<μ ρ' w') Q) _ _ _ (fun ρ w h=>hno ρ w h) hok hokR hr' (hround ρ' w' hI)) fun e a'' w'' hq=>?_
  cases e with
  | normal=>
   obtain ⟨ρ'',hr'',hI'',hlt⟩:=hq
   exact ⟨⟨ρ'',hr'',hI''⟩,by rw[hρ hr'',hρ hr'];exact hlt⟩
  | panic ch=>exact hq
  | _=>exact hq
 | scope body ih=>intro Q ρ a w hno hok hokR hr h;cases hokR
 | _=>intro Q ρ a w hno hok hokR hr h;exact h.elim
end
end Go.Px
namespace Go.Px
open Go.RowKit
section
variable {G:Nat→Prop} {W w:World} {L L':List Ch}
theorem St.group (h:St G W w L):St G W w [Ch.all L]:=by
 classical
 refine ⟨h.chg,fun i=>if (i<W.heap.size→G i)∧i<w.heap.size then 1 else 0,fun i hi=>?_,fun k d hk=>?_⟩
 ·by_cases hf:(i<W.heap.size→G i)∧i<w.heap.size
  ·exact hf
  ·simp[hf]at hi
 ·match k,hk with
  | 0,hk=>
   injection hk with hk;subst hk
   exact Zhd.keep h.all (Chg.refl noB w) (fun _ _ _=>id) (fun i hl hi=>by show ite _ _ _=_;rw[if_pos ⟨hi,hl⟩])
  | k+1,hk=>simp at hk
theorem St.unex {α:Type}{f:α→Ch}(h:St G W w L)(k:Nat)(hk:L[k]?=some (Ch.ex f)):∃a,St G W w (L.set k (f a)):=by
 obtain ⟨hc,T,ht,hL⟩:=h
 obtain ⟨a,ha⟩:=hL k _ hk
 refine ⟨a,hc,T,ht,fun j d hj=>?_⟩
 rw[List.getElem?_set]at hj
 by_cases e:k=j
 ·subst e
  rw[if_pos rfl,if_pos (List.getElem?_eq_some_iff.1 hk).1]at hj
  injection hj with hj;subst hj;exact ha
 ·rw[if_neg e]at hj;exact hL j d hj
theorem St.unfact {p:Prop}{c:Ch}(h:St G W w L)(k:Nat)(hk:L[k]?=some (Ch.fact p c)):p∧St G W w (L.set k c):=by
 obtain ⟨hc,T,ht,hL⟩:=h
 obtain ⟨hp,ha⟩:=hL k _ hk
 refine ⟨hp,hc,T,ht,fun j d hj=>?_⟩
 rw[List.getElem?_set]at hj
 by_cases e:k=j
 ·subst e
  rw[if_pos rfl,if_pos (List.getElem?_eq_some_iff.1 hk).1]at hj
  injection hj with hj;subst hj;exact ha
 ·rw[if_neg e]at hj;exact hL j d hj
theorem St.flat (h:St G W w (L++[Ch.all L'])):St G W w (L++L'):=by
 classical
 obtain ⟨hc,T,ht,hL⟩:=h
 obtain ⟨T',ht',hL'⟩:=hL L.length (Ch.all L') (by simp)
 refine ⟨hc,fun i=>if T i=L.length+1 then (if T' i=0 then 0 else T' i+L.length) else T i,fun i hi=>?_,fun k d hk=>?_⟩
 ·by_cases e:T i=L.length+1
  ·exact ht i (by omega)
  ·dsimp only at hi;rw[if_neg e]at hi;exact ht i hi
 ·by_cases hkl:k<L.length
  ·rw[List.getElem?_append_left hkl]at hk
   refine d.keep (X:=noB) (hL k d (by rw[List.getElem?_append_left hkl];exact hk)) (Chg.refl _ _) (fun _ _ _=>id) fun i _ e=>?_
   dsimp only;rw[if_neg (by omega)];exact e
  ·rw[List.getElem?_append_right (by omega)]at hk
   refine d.keep (X:=noB) (hL' _ d hk) (Chg.refl _ _) (fun _ _ _=>id) fun i _ e=>?_
   have e':T' i=k-L.length+1:=e
   have:=(ht' i (by omega)).1
   dsimp only;rw[if_pos this,if_neg (by omega)];omega
theorem St.unflat (h:St G W w (L++L')):St G W w (L++[Ch.all L']):=by
 classical
 obtain ⟨hc,T,ht,hL⟩:=h
 refine ⟨hc,fun i=>if L.length<T i then L.length+1 else T i,fun i hi=>?_,fun k d hk=>?_⟩
 ·by_cases e:L.length<T i
  ·exact ht i (by omega)
  ·dsimp only at hi;rw[if_neg e]at hi;exact ht i hi
 ·by_cases hkl:k<L.length
  ·rw[List.getElem?_append_left hkl]at hk
   refine d.keep (X:=noB) (hL k d (by rw[List.getElem?_append_left hkl];exact hk)) (Chg.refl _ _) (fun _ _ _=>id) fun i _ e=>?_
   dsimp only;rw[if_neg (by omega)];exact e
  ·rw[List.getElem?_append_right (by omega)]at hk
   have hk0:k=L.length:=by
    have:=(List.getElem?_eq_some_iff.1 hk).1;simp at this;omega
   subst hk0
   simp at hk
   subst hk
   refine ⟨fun i=>if L.length<T i then T i-L.length else 0,fun i hi=>?_,fun j c hj=>?_⟩
   ·by_cases e:L.length<T i
    ·exact ⟨by dsimp only;rw[if_pos e],(ht i (by omega)).2⟩
    ·dsimp only at hi;rw[if_neg e]at hi;exact absurd rfl hi
   ·have hjl:=(List.getElem?_eq_some_iff.1 hj).1
    refine c.keep (X:=noB) (hL (L.length+j) c (by rw[List.getElem?_append_right (by omega),Nat.add_sub_cancel_left];exact hj)) (Chg.refl _ _) (fun _ _ _=>id) fun i _ e=>?_
    have e':T i=L.length+j+1:=e
    dsimp only;rw[if_pos (by omega)];omega
end
end Go.Px
