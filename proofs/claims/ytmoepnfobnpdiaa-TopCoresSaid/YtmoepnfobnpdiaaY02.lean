/-
  Texts of this claim: PxTie, PxData, PxRow, PxMore, PxOwn, PxMap, PxOpen, PxSt, PxQ.
-/
import Derived.Test.YtmoepnfobnpdiaaY01
import Derived.ProofKit
import Derived.OpenShut
import Derived.Lib.Bytealg
import Derived.Lib.Strings
import Derived.Laws.DeepStrings4
import Derived.Maps.AppendAt
import Derived.Maps.OwnSet
import Derived.Maps.Views
import Derived.StringKeys
import Derived.SliceStrings
import Derived.WalkSmall
import Derived.ArgAppend
import Derived.Deep.MidRow
import Derived.Deep.Upon
/-
  What ties a printed text to the code, shortly.
-/
namespace Go.Px
/-- A piece of code does what a shallow program says. -/
def TI (P:Program) (X:Pan) (c:Code) (q:XP) (F:Env→World→Prop):Prop:=∀ρ w,F ρ w→codeP P X c q ρ w
section
variable {P:Program} {X:Pan} {c:Code} {q:XP} {F G n r:Env→World→Prop} {l:List (Nat×(Env→World→Prop))}
theorem ofT (h:∀ρ w,F ρ w=codeP P X c q ρ w:=by intro _ _;kernel_rfl):TI P X c q F:=fun ρ w hf=>(h ρ w).mp hf
theorem appT (k:Nat) (hk:TI P X (dropC (k+1) c) (QX n r l) G) (h:∀ρ w,F ρ w=codeP P X (preC k c) (QX G r l) ρ w:=by intro _ _;kernel_rfl) (e:appC k (preC k c) (dropC (k+1) c)=c:=by kernel_rfl):TI P X c (QX n r l) F:=fun ρ w hf=>by
 have h1:=(h ρ w).mp hf
 rw [←e]
 exact appQ G k h1 hk
theorem seqT (h1:TI P X (fstC c) (QX G r l) F) (h2:TI P X (sndC c) (QX n r l) G) (e:Code.seq (fstC c) (sndC c)=c:=by kernel_rfl):TI P X c (QX n r l) F:=fun ρ w hf=>by
 have:=h1 ρ w hf
 rw [←e]
 exact seqQ G this h2
theorem blockT (id:Nat) (h:TI P X (blkC c) (QX n r ((2*id,n)::l)) F) (e:Code.block id (blkC c)=c:=by kernel_rfl):TI P X c (QX n r l) F:=fun ρ w hf=>by
 have:=h ρ w hf
 rw [←e]
 exact blockQ this
theorem loopT {ρ:Env} {w:World} (I:Env→World→Prop) (μ:Env→World→Nat) (h0:I ρ w)
  (hr:∀ρ' w',Agree (writes (loopC c)) ρ ρ'→I ρ' w'→codeP P X (loopC c) (QX (fun ρ'' w''=>I ρ'' w''∧μ ρ'' w''<μ ρ' w') r l) ρ' w') (e:Code.loop (loopC c)=c:=by kernel_rfl):codeP P X c (QX n r l) ρ w:=by
 rw [←e]
 exact loopQ I μ h0 hr
theorem Agree.on {l:List Nat} {ρ ρ':Env} (h:Agree l ρ ρ') (n:Nat) (hn:l.elem n=false:=by kernel_rfl):ρ' n=ρ n:=h.at n hn
end
instance:Coe EP Pan:=⟨pan⟩
section
variable {P:Program} {f:FuncId} {fn:Func} {c:Code} {w:World} {R:EP}
theorem cls_t {t:Nat} (hf:P.funcs[f]?=some fn) (args:List Value) (h:codeP P (pan R) c (QX (fun ρ w=>R (.returned (ρ t)) w) (fun ρ w=>R (.returned (ρ t)) w) []) (envOf args) w)
  (hm:P.follows .mixedOrders=true:=by kernel_rfl) (hb:fn.body=some c:=by kernel_rfl) (hok:codeOk fn.ntmps c=true:=by kernel_rfl) (ha:Nat.ble args.length fn.ntmps=true:=by rfl) (hr:fn.results=#[.tmp t]:=by rfl):Calls P f args.toArray w R :=
 calls_of_t hm hf hb hok (Nat.le_of_ble_eq_true ha) hr h
end
end Go.Px

/-
  How data lie in memory: readings that hang on the blocks below a number alone.
-/
namespace Go.Px
open Go.RowKit

/-- A way in which data of type α lie in 'size' cells. 'bytes': how much an element takes. -/
structure Rep (α:Type) where
 size:Nat
 bytes:Nat
 ok:World→Nat→List Value→α→Prop
 len:∀{w B cs x},ok w B cs x→cs.length=size
 keep:∀{w w' B B' cs x},ok w B cs x→B≤B'→(∀b,b<B→w'.heap[b]?=w.heap[b]?)→ok w' B' cs x
 one:∀{w B cs x},ok w B cs x→∀u∈cs,u.oneCell'=true
  /-- What an argument's weight gives: nothing is too great for a machine. -/
 fit:α→Prop:=fun _=>True
  /-- How much there is in all. -/
 bulk:α→Nat:=fun _=>0

/-- What a string or a slice of an argument may take. -/
def reachN:Nat:=0x7ffffffff000

/-- A reading out of a value of one cell. -/
def Rep.at1 {α:Type} (r:Rep α) (w:World) (B:Nat) (v:Value) (x:α):Prop:=r.ok w B [v] x
/-- .. out of a struct's value. -/
def Rep.atN {α:Type} (r:Rep α) (w:World) (B:Nat) (v:Value) (x:α):Prop:=∃cs,v = .agg cs.toArray∧r.ok w B cs x

/-- What a slice may take. -/
def maxBytes:Nat:=140737488355328

def inI64 (x:Int):Prop := -9223372036854775808≤x∧x≤9223372036854775807

def rInt:Rep Int where
 size:=1
 bytes:=8
 ok _ _ cs x:=cs=[.int .i64 x]∧inI64 x
 len h:=by rw [h.1];rfl
 keep h _ _:=h
 one h u hu:=by rw [h.1] at hu;simp at hu;subst hu;rfl
 bulk _:=1

def rStr:Rep ByteArray where
 size:=1
 bytes:=16
 ok _ _ cs x:=cs=[.string x]∧x.size≤maxLen
 len h:=by rw [h.1];rfl
 keep h _ _:=h
 one h u hu:=by rw [h.1] at hu;simp at hu;subst hu;rfl
 fit x:=x.size≤reachN
 bulk x:=x.size+1

/-- Two, one behind the other. -/
def Rep.prod {α β:Type} (r:Rep α) (s:Rep β):Rep (α×β) where
 size:=r.size+s.size
 bytes:=r.bytes+s.bytes
 ok w B cs x:=∃c1 c2,cs=c1++c2∧r.ok w B c1 x.1∧s.ok w B c2 x.2
 len:=by rintro w B cs x ⟨c1,c2,rfl,h1,h2⟩;rw [List.length_append,r.len h1,s.len h2]
 keep:=by rintro w w' B B' cs x ⟨c1,c2,rfl,h1,h2⟩ hB hb;exact ⟨c1,c2,rfl,r.keep h1 hB hb,s.keep h2 hB hb⟩
 one:=by
  rintro w B cs x ⟨c1,c2,rfl,h1,h2⟩ u hu
  rcases List.mem_append.1 hu with hu | hu
  ·exact r.one h1 u hu
  ·exact s.one h2 u hu
 fit x:=r.fit x.1∧s.fit x.2
 bulk x:=r.bulk x.1+s.bulk x.2

/-- The same cells, read as another type. -/
def Rep.map {α β:Type} (r:Rep α) (f:β→α):Rep β where
 size:=r.size
 bytes:=r.bytes
 ok w B cs x:=r.ok w B cs (f x)
 len h:=r.len h
 keep h:=r.keep h
 one h:=r.one h
 fit x:=r.fit (f x)
 bulk x:=r.bulk (f x)

/-- A slice: nil or not; its cells lie below B. -/
def rSlice {α:Type} (r:Rep α):Rep (List α) where
 size:=1
 bytes:=24
 ok w B cs l:=∃A c,cs=[.slice A l.length c]∧l.length≤c∧c≤maxLen∧True ∧
  (0<l.length→∃b o,A=some ⟨b,o,none⟩∧b<B∧∀i x,l[i]?=some x→∃ys,r.ok w B ys x∧∀j u,ys[j]?=some u→w.cell? ⟨b,o+(i*r.size+j),none⟩=some u)
 len:=by rintro w B cs x ⟨A,c,rfl,_⟩;rfl
 keep:=by
  rintro w w' B B' cs l ⟨A,c,rfl,h1,h2,h3,h4⟩ hB hb
  refine ⟨A,c,rfl,h1,h2,h3,fun hl=>?_⟩
  obtain ⟨b,o,rfl,hbB,hc⟩:=h4 hl
  refine ⟨b,o,rfl,by omega,fun i x hi=>?_⟩
  obtain ⟨ys,hy,hcell⟩:=hc i x hi
  exact ⟨ys,r.keep hy hB hb,fun j u hu=>(World.cell?_of_block (hb b hbB)).trans (hcell j u hu)⟩
 one:=by rintro w B cs x ⟨A,c,rfl,_⟩ u hu;simp at hu;subst hu;rfl
 fit l:=l.length*r.bytes≤reachN∧∀x∈l,r.fit x
 bulk l:=(l.map r.bulk).sum+1

section
variable {α:Type} {r:Rep α} {w w':World} {B B':Nat} {v:Value} {l:List α}

theorem Rep.below {cs:List Value} {x:α} (h:r.ok w B cs x) (hb:Below B w w'):r.ok w' B cs x:=r.keep h (Nat.le_refl _) hb.block
theorem Rep.up {cs:List Value} {x:α} (h:r.ok w B cs x) (hB:B≤B'):r.ok w B' cs x:=r.keep h hB fun _ _=>rfl

/-- A slice opened: its form, and what lies at each place. -/
theorem slice_form (h:(rSlice r).at1 w B v l):∃A c,v = .slice A l.length c∧l.length≤c∧c≤maxLen∧True:=by
 obtain ⟨A,c,hv,h1,h2,h3,_⟩:=h
 exact ⟨A,c,by simpa using hv,h1,h2,h3⟩

theorem slice_at {A:Option Addr} {n c:Nat} (h:(rSlice r).at1 w B (.slice A n c) l) {i:Nat} (hi:i<l.length) :
  ∃b o ys,A=some ⟨b,o,none⟩∧b<B∧r.ok w B ys l[i]∧∀j u,ys[j]?=some u→w.cell? ⟨b,o+(i*r.size+j),none⟩=some u:=by
 obtain ⟨A',c',hv,h1,h2,h3,h4⟩:=h
 obtain ⟨b,o,rfl,hb,hc⟩:=h4 (by omega)
 obtain ⟨ys,hy,hcell⟩:=hc i l[i] (List.getElem?_eq_getElem hi)
 injection hv with hv
 injection hv with hA
 exact ⟨b,o,ys,hA,hb,hy,hcell⟩

theorem ints_at {A:Option Addr} {n c:Nat} {l:List Int} (h:(rSlice rInt).at1 w B (.slice A n c) l) {i:Nat} (hi:i<l.length) :
  ∃b o,A=some ⟨b,o,none⟩∧b<B∧w.cell? ⟨b,o+i,none⟩=some (.int .i64 l[i])∧inI64 l[i]:=by
 obtain ⟨b,o,ys,hA,hb,⟨rfl,hr⟩,hc⟩:=slice_at h hi
 exact ⟨b,o,hA,hb,by simpa [rInt] using hc 0 _ rfl,hr⟩

theorem strs_at {A:Option Addr} {n c:Nat} {l:List ByteArray} (h:(rSlice rStr).at1 w B (.slice A n c) l) {i:Nat} (hi:i<l.length) :
  ∃b o,A=some ⟨b,o,none⟩∧b<B∧w.cell? ⟨b,o+i,none⟩=some (.string l[i])∧l[i].size≤maxLen:=by
 obtain ⟨b,o,ys,hA,hb,⟨rfl,hr⟩,hc⟩:=slice_at h hi
 exact ⟨b,o,hA,hb,by simpa [rStr] using hc 0 _ rfl,hr⟩
end

theorem wrap_succ {k n:Nat} (hk:k<n) (hn:n≤maxLen):IntKind.i64.wrap ((k:Int)+1)=(k:Int)+1:=by
 unfold maxLen at hn
 exact IntWalk.i64_in _ (by omega)

/-- The number in a slot. -/
def iv:Value→Nat | .int _ q=>q.toNat | _=>0

end Go.Px

/-
  From a law's contract to its row: the law answers true, and below the heap's old size nothing has turned.
-/
namespace Go.Px
open Go.ChangeShapes Go.WideShapes Go.ChangeAt Go.RowKit

section
variable {H:Type} {enc:TypeId×Value→H} {P:Program} {W W':World}

theorem trodAll_stays (hl:laidOutB P=true) {sp:Nat→Bool}:∀{ts:List TypeId} {vs:List Value} {ds:List (DataW H)} {ps:List MemPlace},(∀t∈ts,P.readableRec t=true∧t<P.types.size) →
  DataW.TrodAll enc P W 0 (fun _=>true) true ts vs ds ps→(∀x∈ps,W.sameAt W' x)→(∀x∈ps,sp x.block=true)→DataW.TrodAll enc P W' 0 sp true ts vs ds ps
 | [],_,_,_,_,h,_,_=>by
  obtain ⟨rfl,rfl,rfl⟩:=trodAll_nil h
  rfl
 | t::ts,_,_,_,ht,h,hs,hsp=>by
  obtain ⟨v,vs,d,ds,p,q,rfl,rfl,rfl,h1,h2⟩:=trodAll_cons h
  obtain ⟨hr,hrow⟩:=ht t (by simp)
  exact trodAll_cons_mk (WideElems.Trod_stays hl hr hrow h1 (fun x hx=>hs x (by simp [hx])) (fun x hx=>hsp x (by simp [hx])))
   (trodAll_stays hl (fun t ht'=>ht t (by simp [ht'])) h2 (fun x hx=>hs x (by simp [hx])) (fun x hx=>hsp x (by simp [hx])))

/-- What a law owes. -/
theorem law_post {f:Func} {s:ChangeSpec} {args:Array Value} {ds gs:List (DataW H)} {before:List MemPlace} {t:TypeId}
  (hl:laidOutB P=true) (hread:∀t∈f.params.toList,P.readableRec t=true∧t<P.types.size) (hvars:s.vars=[]) (hbool:P.underlying t=some .bool) (hrt:f.resultTypes=#[t])
  (hW:DataW.Whole enc P f.params.toList s.vars false W args.toList ds gs before)
  (hres:(s.fn H (ds++gs)).results=[.lit (.bool true)]) (hargs:(s.fn H (ds++gs)).args=ds) (hvs:(s.fn H (ds++gs)).vars=[]) (hb:Below W.heap.size W W') :
  s.post enc P f false true false false W args (.bool true) W':=by
 have hlt:∀p∈before,p.block<W.heap.size:=fun p hp=>hW.lt p hp
 have hW0:=hW
 obtain ⟨p,q,hA,hV,rfl,_,_⟩:=hW
 rw [hvars] at hV
 have hV':=hV
 obtain ⟨rfl,rfl⟩:=trodVars_none hV
 refine ⟨ds,[],p++[],[],p,[],hW0,?_,?_,?_,?_,fun h=>by cases h⟩
 ·rw [hres,hrt]
  exact trodAll_cons_mk (shut_bool hbool true) trodAll_mk0
 ·rw [hargs]
  exact trodAll_stays hl hread hA (fun x hx=>hb.same (hlt x (by simpa using hx))) (fun x hx=>by simpa using hlt x (by simpa using hx))
 ·rw [hvs,hvars];rfl
 ·exact World.keptBut_mono (fun x hx=>⟨hx,Or.inr (by simpa using hx)⟩) (hb.frame (·∈p++[]))
end
end Go.Px

/-
  More words: worlds that differ at some blocks alone; strings by their bytes.
-/
namespace Go.Px
open Go.RowKit

/-- Nothing has turned but at blocks in F, and new ones. -/
structure Chg (F:Nat→Prop) (w w':World):Prop where
 os:w'.os=w.os
 tape:w'.tape=w.tape
 output:w'.output=w.output
 size:w.heap.size≤w'.heap.size
 block:∀k,k<w.heap.size→¬F k→w'.heap[k]?=w.heap[k]?

section
variable {F G:Nat→Prop} {a b c w w':World}
theorem Chg.refl (F:Nat→Prop) (w:World):Chg F w w:=⟨rfl,rfl,rfl,Nat.le_refl _,fun _ _ _=>rfl⟩
theorem Chg.trans (h:Chg F a b) (k:Chg F b c):Chg F a c :=
 ⟨k.os.trans h.os,k.tape.trans h.tape,k.output.trans h.output,Nat.le_trans h.size k.size,fun i hi hF=>(k.block i (Nat.lt_of_lt_of_le hi h.size) hF).trans (h.block i hi hF)⟩
/-- .. where the second may turn more, of what is new. -/
theorem Chg.trans' (h:Chg F a b) (k:Chg G b c) (hG:∀i,i<a.heap.size→G i→F i):Chg F a c :=
 ⟨k.os.trans h.os,k.tape.trans h.tape,k.output.trans h.output,Nat.le_trans h.size k.size,fun i hi hF=>(k.block i (Nat.lt_of_lt_of_le hi h.size) (fun hg=>hF (hG i hi hg))).trans (h.block i hi hF)⟩
theorem Chg.mono (h:Chg F w w') (hF:∀i,i<w.heap.size→F i→G i):Chg G w w':=⟨h.os,h.tape,h.output,h.size,fun k hk hg=>h.block k hk fun hf=>hg (hF k hk hf)⟩
theorem Chg.drew (h:Chg F a w):Chg F a w.drew:=⟨h.os,h.tape,h.output,h.size,h.block⟩
theorem Chg.alloc (h:Chg F a w) (o:Obj):Chg F a (w.alloc o) :=
 h.trans' (G:=fun _=>False) ⟨rfl,rfl,rfl,by simp,fun k hk _=>Below.heap_alloc _ _ _ hk⟩ (fun _ _ h=>h.elim)
theorem Chg.setCell (h:Chg F a w) {p:Addr} (hp:F p.block∨a.heap.size≤p.block) (u:Value):Chg F a (w.setCell p u) :=
 ⟨h.os,h.tape,h.output,by simpa using h.size,fun k hk hF=>by
  rw [Below.heap_setCell _ _ _ _ (by rintro rfl;rcases hp with hp | hp;exact hF hp;omega)]
  exact h.block k hk hF⟩
theorem Chg.cell (h:Chg F w w') {p:Addr} (hp:p.block<w.heap.size) (hF:¬F p.block):w'.cell? p=w.cell? p:=World.cell?_of_block (w:=w) (h.block p.block hp hF)
/-- A cell that was there. -/
theorem Chg.at (h:Chg F w w') {p:Addr} {v:Value} (hv:w.cell? p=some v) (hF:¬F p.block):w'.cell? p=some v:=(h.cell (World.block_lt_of_cell? w p hv) hF).trans hv
theorem Chg.frozen (h:Chg F w w') {p:Addr} (hp:p.block<w.heap.size) (hF:¬F p.block):w'.frozen? p=w.frozen? p:=World.frozen?_of_block (w:=w) (h.block p.block hp hF)
theorem Chg.below {B:Nat} (h:Chg F w w') (hB:B≤w.heap.size) (hF:∀k,k<B→¬F k):Below B w w':=⟨h.os,h.tape,h.output,h.size,fun k hk=>h.block k (by omega) (hF k hk)⟩
theorem Below.chg (h:Below w.heap.size w w'):Chg F w w':=⟨h.os,h.tape,h.output,h.size,fun k hk _=>h.block k hk⟩
end

/-! ### Bytes of a string -/
def bt (s:ByteArray) (i:Nat):Nat:=if h:i<s.size then (s[i]'h).toNat else 0

theorem bt_lt (s:ByteArray) (i:Nat):bt s i<256:=by
 unfold bt
 split
 ·exact UInt8.toNat_lt _
 ·omega

section
variable {P:Program} {w:World}
theorem index_bt {t:TypeId} {s:ByteArray} {k:IntKind} {i:Nat} (h:P.underlying t=some .string) (hi:i<s.size):(Instr.index t (.string s) (.int k (i:Int))).run P w = .ok (.int .u8 (bt s i)) w:=by
 rw [run_index_string w t s k i h,dif_pos (by omega)]
 unfold bt
 rw [dif_pos hi]
 rfl

end
end Go.Px

/-
  Slices that a call owns: appends.
-/
namespace Go.Px
open Go.RowKit

theorem ownsRow_block {w:World} {base e size:Nat} {v:Value} {n:Nat} {xs:List Value} (h:w.ownsRow base e size v n xs) {k:Nat} (hk:v.ownBlock=some k):base≤k∧k<w.heap.size:=by
 rcases h.2 with ⟨rfl,_⟩ | ⟨g,cap,cur,rfl,hb,hg,_⟩
 ·cases hk
 ·cases hk;exact ⟨hb,(Array.getElem?_eq_some_iff.1 hg).1⟩

/-- What is owned reads as a slice. -/
theorem slice_of_own {α:Type} {r:Rep α} {enc:α→List Value} {w:World} {base e B:Nat} {v:Value} {l:List α} (h:w.ownsRow base e r.size v l.length (l.flatMap enc))
  (hsz:∀x∈l,(enc x).length=r.size) (hr:∀x∈l,r.ok w B (enc x) x) (hB:w.heap.size≤B):(rSlice r).at1 w B v l:=by
 rcases h.2 with ⟨rfl,hn⟩ | ⟨g,cap,cur,rfl,_,hg,hnc,hcm,hcs,htake⟩
 ·exact ⟨none,0,by rw [hn],by omega,by simp [maxLen],trivial,fun h=>by omega⟩
 ·refine ⟨some ⟨g,0,none⟩,cap,rfl,hnc,hcm,trivial,fun _=>⟨g,0,rfl,?_,fun i x hi=>⟨enc x,hr x (List.mem_of_getElem? hi),fun j u hj=>?_⟩⟩⟩
  ·have:=(Array.getElem?_eq_some_iff.1 hg).1;omega
  ·have hil:=(List.getElem?_eq_some_iff.1 hi).1
   have hx:=(List.getElem?_eq_some_iff.1 hi).2
   have hjl:j<r.size:=by have:=(List.getElem?_eq_some_iff.1 hj).1;rw [hsz x (List.mem_of_getElem? hi)] at this;exact this
   have key:∀(l:List α) (i:Nat) (x:α),(∀x∈l,(enc x).length=r.size)→l[i]?=some x→(l.flatMap enc)[i*r.size+j]?=(enc x)[j]?:=by
    intro l
    induction l with
    | nil=>intro i x _ h;simp at h
    | cons y l ih =>
     intro i x hs h
     cases i with
     | zero =>
      simp at h;subst h
      rw [List.flatMap_cons,Nat.zero_mul,Nat.zero_add,List.getElem?_append_left (by rw [hs y (by simp)];exact hjl)]
     | succ i =>
      rw [List.flatMap_cons,List.getElem?_append_right (by rw [hs y (by simp),Nat.succ_mul];omega),hs y (by simp),Nat.succ_mul,show i*r.size+r.size+j-r.size=i*r.size+j by omega]
      exact ih i x (fun z hz=>hs z (by simp [hz])) (by simpa using h)
   have hk:=key l i x hsz hi
   rw [hj,←htake] at hk
   have hk2:cur.toList[i*r.size+j]?=some u:=by
    rw [List.getElem?_take] at hk
    split at hk
    ·exact hk
    ·cases hk
   simp only [World.cell?,hg,Nat.zero_add]
   simpa using hk2

/-- What lies in a new block. -/
theorem alloc_cells (w:World) (l:List Value) (t:TypeId) {n:Nat} (hn:n=w.heap.size):∀j u,l[j]?=some u→(w.alloc (.cells l.toArray t)).cell? ((⟨n,0,none⟩:Addr).add j)=some u:=by
 intro j u hj
 subst hn
 rw [Addr.add_lit,World.cell?_alloc_new,List.getElem?_toArray,Nat.zero_add]
 exact hj

end Go.Px

/-
  Maps that a call owns: from strings or numbers to numbers.
-/
namespace Go.Px
open Go.RowKit

/-- A kind of keys. -/
structure KeyT (κ:Type) where
 val:κ→Value
 lit:κ→Lit
 good:κ→Prop
 inj:∀{a b},lit a=lit b→a=b
 isLit:∀a,WideAt.IsKeyLit (lit a)

def kStr:KeyT ByteArray where
 val s := .string s
 lit s := .string s.data.toList
 good s:=s.size≤maxLen
 inj:=by
  intro a b h
  cases a;cases b
  simp at h
  cases h;rfl
 isLit _:=trivial
def kInt:KeyT Int where
 val x := .int .i64 x
 lit x := .int .i64 x
 good x:=inI64 x
 inj:=by intro a b h;simpa using h
 isLit _:=trivial

/-- What a type of keys and of maps must be. -/
structure MapTy (P:Program) {κ:Type} (Y:KeyT κ) (t k e:TypeId):Prop where
 tm:P.underlying t=some (.map k e)
 te:P.underlying e=some (.int .i64)
 keyed:Maps.Keyed P k
 key:∀a:κ,Y.good a→keyOf P k (Y.val a)=some (Y.lit a)
 zero:∀w,(zeroValue e).run P w = .ok (.int .i64 0) w

/-- A map of so many keys at most, that answers f; sz: just so many. -/
def MapOf (P:Program) {κ:Type} (Y:KeyT κ) (k e:TypeId) (w:World) (v:Value) (n:Nat) (f:κ→Int):Prop :=
 (v = .map none∧n=0∧∀a,f a=0)∨∃b,v = .map (some b)∧∃D:DataW Unit,w.ownsMap P k (plainElem P e) b n D∧Maps.size D=n∧(∀a:κ,D.atKey (Y.lit a) (.lit (.int .i64 0)) = .lit (.int .i64 (f a)))∧∀a:κ,Maps.has D (Y.lit a)=true→f a≠0

section
variable {P:Program} {κ:Type} {Y:KeyT κ} {t k e:TypeId} {w w':World} {v:Value} {n:Nat} {f:κ→Int}

theorem MapOf.nil:MapOf P Y k e w (.map none) 0 (fun _=>0):=Or.inl ⟨rfl,rfl,fun _=>rfl⟩

theorem MapOf.chg {F:Nat→Prop} (h:MapOf P Y k e w v n f) (hc:Chg F w w') (hF:∀b,v = .map (some b)→¬F b):MapOf P Y k e w' v n f:=by
 rcases h with h | ⟨b,hv,D,hD,r⟩
 ·exact Or.inl h
 ·refine Or.inr ⟨b,hv,D,?_,r⟩
  obtain ⟨es,clock,hb,h2⟩:=hD
  exact ⟨es,clock,(hc.block b (Array.getElem?_eq_some_iff.1 hb).1 (hF b hv)).trans hb,h2⟩

theorem MapOf.lt (h:MapOf P Y k e w v n f) {b:Nat} (hv:v = .map (some b)):b<w.heap.size:=by
 rcases h with h | ⟨b',hv',D,hD,_⟩
 ·rw [h.1] at hv;cases hv
 ·rw [hv'] at hv;cases hv;exact hD.lt

theorem MapOf.lookup (T:MapTy P Y t k e) (h:MapOf P Y k e w v n f) (a:κ) (ha:Y.good a):(Instr.lookup t v (Y.val a) false).run P w = .ok (.int .i64 (f a)) w:=by
 rcases h with ⟨rfl,_,h0⟩ | ⟨b,rfl,D,hD,_,hat,_⟩
 ·rw [h0 a]
  obtain h:=Maps.look_nil (w:=w) false T.keyed T.tm (T.zero w) (T.key a ha)
  simpa using h
 ·obtain ⟨c,hrun,hc,_⟩:=hD.lookup_int T.keyed T.tm T.te (T.zero w) (T.key a ha)
  rw [hat a] at hc
  injection hc with hc
  injection hc with _ hc
  rw [hrun,hc]

open Classical in
theorem MapOf.update (T:MapTy P Y t k e) {b:Nat} (h:MapOf P Y k e w (.map (some b)) n f) (a:κ) (ha:Y.good a) (hn:n<maxLen) {x:Int} (hx:inI64 x) (hx0:x≠0) :
  ∃w',(Instr.mapUpdate t (.map (some b)) (Y.val a) (.int .i64 x)).run P w = .ok () w'∧MapOf P Y k e w' (.map (some b)) (if f a=0 then n+1 else n) (fun c=>if c=a then x else f c)∧w.grownBy w' (some b):=by
 rcases h with ⟨hv,_⟩ | ⟨b',hv,D,hD,hsz,hat,hhas⟩
 ·cases hv
 ·cases hv
  have hwf:(Lit.int .i64 x).wf=true:=by
   have hm:IntKind.i64.min = -9223372036854775808:=by decide
   obtain ⟨h1,h2⟩:=hx
   simp [Lit.wf,hm]
   omega
  obtain ⟨w',hrun,hown,hg⟩:=hD.update T.keyed T.tm hn (T.key a ha) (plainElem_int (H:=Unit) (P:=P) T.te hwf)
  have hsz':=Maps.size_put (hD.tidy T.keyed) (k:=Y.lit a) (.lit (.int .i64 x))
  have hfa:f a=0↔Maps.has D (Y.lit a)=false:=by
   constructor
   ·intro h0
    rw [Bool.eq_false_iff]
    intro hh
    exact hhas a hh h0
   ·intro hh
    have:=Maps.atKey_of_not_has hh (.lit (.int .i64 0))
    rw [hat a] at this
    injection this with this
    injection this with _ this
  have hsize:Maps.size (D.put (Y.lit a) (.lit (.int .i64 x)))=if f a=0 then n+1 else n:=by
   rw [hsz',hsz]
   by_cases h0:f a=0
   ·rw [if_pos h0,hfa.1 h0];rfl
   ·rw [if_neg h0]
    have:Maps.has D (Y.lit a)=true:=by
     cases hh:Maps.has D (Y.lit a) with
     | true=>rfl
     | false=>exact absurd (hfa.2 hh) h0
    rw [this];rfl
  refine ⟨w',hrun,Or.inr ⟨b,rfl,_,?_,hsize,fun c=>?_,fun c hc=>?_⟩,hg⟩
  ·rw [←hsize]
   obtain ⟨es,clock,hb,F,hs,hD'⟩:=hown
   refine ⟨es,clock,hb,F,?_,hD'⟩
   rw [hD',Maps.size_eq,length_read]
   exact Nat.le_refl _
  ·by_cases hca:c=a
   ·subst hca
    rw [Maps.atKey_put_same hD.isMap (Y.isLit c)]
    simp only [if_true]
   ·rw [Maps.atKey_put_other (fun e=>hca (Y.inj e)),hat c]
    simp only [if_neg hca]
  ·by_cases hca:c=a
   ·simp only [if_pos hca];exact hx0
   ·simp only [if_neg hca]
    rw [Maps.has_put_other (fun e=>hca (Y.inj e))] at hc
    exact hhas c hc

theorem MapOf.len (T:MapTy P Y t k e) (h:MapOf P Y k e w v n f) (ty:TypeId):(Builtin.len_ #[t] ty #[v]).run P w = .ok (.int .i64 n) w:=by
 rcases h with ⟨rfl,rfl,_⟩ | ⟨b,rfl,D,hD,hsz,_⟩
 ·exact Maps.len_nil T.tm ty
 ·rw [hD.len T.tm ty,hsz]

theorem MapOf.made (P:Program) {κ:Type} (Y:KeyT κ) (k e:TypeId) (w:World):MapOf P Y k e (w.alloc (.map #[] 0)) (.map (some w.heap.size)) 0 (fun _=>0) :=
 Or.inr ⟨_,rfl,_,World.ownsMap_made w P k _,rfl,fun _=>rfl,fun a h=>by cases h⟩
end
end Go.Px

/-
  From a reading to the way in which data lie.
-/
namespace Go.Px
open Go.ChangeShapes Go.WideShapes Go.ChangeAt Go.RowKit

/-- A way of telling how much a reading holds. -/
structure BulkOf {H:Type} (ub:DataW H→Nat) (uba:List (DataW H)→Nat):Prop where
 str:∀b,ub (.lit (.string b))=b.length+1
 lit:∀l,1≤ub (.lit l)
 nil:1≤ub .nil
 slice:∀e s,ub (.slice e s)=uba e+uba s+1
 agg:∀p,ub (.agg p)=uba p+1
 all0:uba []=0
 allc:∀d r,uba (d::r)=ub d+uba r
/-- No more than any such way tells. -/
def BulkLe {H:Type} (n:Nat) (d:DataW H):Prop:=∀(ub:DataW H→Nat) (uba:List (DataW H)→Nat),BulkOf ub uba→n≤ub d
def BulkLes {H:Type} (n:Nat) (d:List (DataW H)):Prop:=∀(ub:DataW H→Nat) (uba:List (DataW H)→Nat),BulkOf ub uba→n≤uba d

/-- What is read as a type lies so. -/
def Opens {α:Type} (P:Program) (t:TypeId) (r:Rep α):Prop :=
 P.cellsOf t=r.size∧P.bytesOf t=r.bytes∧∀{H:Type} (enc:TypeId×Value→H) (W:World) (base:Nat) (sp:Nat→Bool) (held:Bool) (fuel:Nat) (cs:List Value) (x:DataW H×List MemPlace),
  DataW.trod enc P W base sp held fuel t cs=some x→∃a,r.ok W W.heap.size cs a∧((x.1.weights P t).all (·≤reachBytes)=true→r.fit a)∧BulkLe (r.bulk a) x.1

section
variable {P:Program} {t:TypeId}
theorem opens_int (ht:P.underlying t=some (.int .i64)) (hc:P.cellsOf t=1) (hb:P.bytesOf t=8):Opens P t rInt:=by
 refine ⟨hc,hb,fun enc W base sp held fuel cs x h=>?_⟩
 obtain ⟨n,rfl,rfl,hw⟩:=DataW.trod_int ht h
 refine ⟨n,⟨rfl,?_⟩,fun _=>trivial,fun ub uba hb=>by subst_vars;exact hb.lit _⟩
 simp [Lit.wf] at hw
 unfold inI64
 have hm:IntKind.i64.min = -9223372036854775808:=by decide
 rw [hm] at hw
 exact hw
theorem opens_str (ht:P.underlying t=some .string) (hc:P.cellsOf t=1) (hb:P.bytesOf t=16):Opens P t rStr:=by
 refine ⟨hc,hb,fun enc W base sp held fuel cs x h=>?_⟩
 obtain ⟨s,rfl,rfl,hs⟩:=DataW.trod_string ht h
 refine ⟨s,⟨rfl,hs⟩,fun hw=>?_,fun ub uba hb=>by rw [hb.str];simp [rStr]⟩
 have:s.size≤reachBytes:=by simpa [DataW.weights] using hw
 exact this
theorem weights_mem {P:Program} {e:TypeId} {H:Type}:∀{l:List (DataW H)} {d:DataW H},(DataW.weightsAll P e l).all (·≤reachBytes)=true→d∈l→(d.weights P e).all (·≤reachBytes)=true
 | [],_,_,h=>by cases h
 | x::l,d,hw,h=>by
  simp only [DataW.weightsAll,List.all_append,Bool.and_eq_true] at hw
  rcases List.mem_cons.1 h with rfl | h
  ·exact hw.1
  ·exact weights_mem hw.2 h
theorem bulk_sum {α H:Type} {bk:α→Nat} {ub:DataW H→Nat} {uba:List (DataW H)→Nat} (hb:BulkOf ub uba):∀{l:List α} {ds:List (DataW H)},l.length=ds.length→(∀(i:Nat) (y:α) (d:DataW H),l[i]?=some y→ds[i]?=some d→BulkLe (bk y) d)→(l.map bk).sum≤uba ds
 | [],_,_,_=>by simp
 | y::l,[],h,_=>by simp at h
 | y::l,d::ds,h,hd=>by
  rw [hb.allc,List.map_cons,List.sum_cons]
  have h1:=hd 0 y d rfl rfl ub uba hb
  have h2:=bulk_sum hb (l:=l) (ds:=ds) (bk:=bk) (by simpa using h) fun i y d hy hd'=>hd (i+1) y d (by simpa using hy) (by simpa using hd')
  omega
theorem opens_slice {α:Type} {r:Rep α} {e:TypeId} (ht:P.underlying t=some (.slice e)) (hc:P.cellsOf t=1) (hb:P.bytesOf t=24) (hpos:0<r.size) (he:Opens P e r):Opens P t (rSlice r):=by
 refine ⟨hc,hb,fun enc W base sp held fuel cs x h=>?_⟩
 rcases DataW.trod_slice ht h with ⟨rfl,rfl⟩ | ⟨a,len,cap,elems,rest,n,_,rfl,rfl,_,hl,hm,hlen,hel,_,_⟩
 ·exact ⟨[],⟨none,0,rfl,by simp,by simp [maxLen],trivial,fun h=>by simp at h⟩,fun _=>⟨by simp,by simp⟩,fun ub uba hb=>hb.nil⟩
 ·have each:∀i,i<len→∃y,(∀z,elems[i]?=some z→((z.1.weights P e).all (·≤reachBytes)=true→r.fit y)∧BulkLe (r.bulk y) z.1)∧∃ys,r.ok W W.heap.size ys y∧∀j u,ys[j]?=some u→W.cell? (a.add (i*r.size+j))=some u:=by
   intro i hi
   have h1:=hel i hi
   rw [List.getElem?_eq_getElem (by omega),Option.bind_eq_some_iff] at h1
   obtain ⟨cs',hcs,hy⟩:=h1
   obtain ⟨y,hy,hfit,hbk⟩:=he.2.2 enc W base sp held n cs' _ hy
   obtain ⟨_,hlen',hcell⟩:=World.cells?_some hcs
   refine ⟨y,fun z hz=>by rw [List.getElem?_eq_getElem (by omega)] at hz;cases hz;exact ⟨hfit,hbk⟩,cs',hy,fun j u hj=>?_⟩
   have hjl:=(List.getElem?_eq_some_iff.1 hj).1
   have h2:=hcell j (by omega)
   rw [hj,he.1] at h2
   rw [←h2]
   congr 1
   unfold Addr.add
   by_cases h0:i*r.size=0
   ·rw [h0];simp
   ·by_cases hj0:j=0
    ·subst hj0;simp [h0]
    ·          simp [h0,hj0,Nat.add_assoc]
  have mk:∀n,n≤len→∃l:List α,l.length=n∧∀i y,l[i]?=some y→(∀z,elems[i]?=some z→((z.1.weights P e).all (·≤reachBytes)=true→r.fit y)∧BulkLe (r.bulk y) z.1)∧∃ys,r.ok W W.heap.size ys y∧∀j u,ys[j]?=some u→W.cell? (a.add (i*r.size+j))=some u:=by
   intro n
   induction n with
   | zero=>exact fun _=>⟨[],rfl,fun i y h=>by simp at h⟩
   | succ n ih =>
    intro hn
    obtain ⟨l,hll,hl'⟩:=ih (by omega)
    obtain ⟨y,hy⟩:=each n (by omega)
    refine ⟨l++[y],by simp [hll],fun i z hz=>?_⟩
    by_cases hi:i<l.length
    ·rw [List.getElem?_append_left hi] at hz;exact hl' i z hz
    ·rw [List.getElem?_append_right (by omega)] at hz
     have hi0:i-l.length=0:=by
      have:=(List.getElem?_eq_some_iff.1 hz).1
      simp at this;omega
     rw [hi0] at hz
     simp at hz
     subst hz
     have:i=n:=by omega
     subst this
     exact hy
  obtain ⟨l,hll,hl'⟩:=mk len (Nat.le_refl _)
  refine ⟨l,⟨some a,cap,by rw [hll],by omega,hm,trivial,fun hpos'=>?_⟩,fun hw=>?_,fun ub uba hb=>?_⟩
  case refine_3 =>
   rw [hb.slice]
   have hsum:(l.map r.bulk).sum≤uba (elems.map (·.1)):=bulk_sum hb (by simp;omega) fun i y z hy hz=>by
    rw [List.getElem?_map,Option.map_eq_some_iff] at hz
    obtain ⟨z',hz',rfl⟩:=hz
    exact ((hl' i y hy).1 z' hz').2
   show (l.map r.bulk).sum+1≤_
   omega
  case refine_2 =>
   simp only [DataW.weights,ht,List.all_cons,List.all_append,Bool.and_eq_true,decide_eq_true_eq,List.length_map] at hw
   refine ⟨?_,fun x hx=>?_⟩
   ·have h1:=hw.1
    rw [he.2.1] at h1
    refine Nat.le_trans (Nat.mul_le_mul_right _ ?_) h1
    omega
   ·obtain ⟨i,hi⟩:=List.getElem?_of_mem hx
    have hil:=(List.getElem?_eq_some_iff.1 hi).1
    refine ((hl' i x hi).1 elems[i] (List.getElem?_eq_getElem (by omega))).1 ?_
    exact weights_mem hw.2.1 (List.mem_map_of_mem (List.getElem_mem _))
  have h0:=hl' 0 l[0] (List.getElem?_eq_getElem hpos')
  obtain ⟨_,ys,hok,hcell⟩:=h0
  have hylen:=r.len hok
  have hc0:=hcell 0 ys[0] (List.getElem?_eq_getElem (by omega))
  have ha:a=⟨a.block,a.off,none⟩:=by
   simp [Addr.add] at hc0
   unfold World.cell? at hc0
   split at hc0
   ·split at hc0
    ·cases hc0
    ·rename_i hsp
     cases a with
     | mk b o s=>cases s with
      | none=>rfl
      | some s=>simp at hsp
   ·cases hc0
  have hblk:=World.block_lt_of_cell? W _ hc0
  refine ⟨a.block,a.off,by rw [←ha],?_,fun i y hi=>?_⟩
  ·rw [ha] at hblk
   simpa [Addr.add] using hblk
  ·obtain ⟨_,ys,hok,hcell⟩:=hl' i y hi
   refine ⟨ys,hok,fun j u hj=>?_⟩
   have:=hcell j u hj
   rw [ha,Addr.add_lit] at this
   exact this

/-- Fields, from a place on. -/
def OpensF {α:Type} (P:Program) (fs:List Field) (off:Nat) (r:Rep α):Prop:=∀(H:Type) (enc:TypeId×Value→H) (W:World) (base:Nat) (sp:Nat→Bool) (held:Bool) (n:Nat) (cs:List Value) (xs:List (DataW H×List MemPlace)),
 cs.length=off+r.size→xs.length=fs.length→(∀(i:Nat) (f:Field),fs[i]?=some f→DataW.trod enc P W base sp held n f.type ((cs.drop f.offset).take (P.cellsOf f.type))=xs[i]?)→∃a,r.ok W W.heap.size (cs.drop off) a∧((DataW.weightsEach P (fs.map (·.type)) (xs.map (·.1))).all (·≤reachBytes)=true→r.fit a)∧BulkLes (r.bulk a) (xs.map (·.1))

theorem opensF_one {α:Type} {r:Rep α} {f:Field} (hf:Opens P f.type r):OpensF P [f] f.offset r:=by
 intro H enc W base sp held n cs xs hl hxs h
 have h0:=h 0 f rfl
 rw [List.getElem?_eq_getElem (by rw [hxs];simp)] at h0
 obtain ⟨a,ha,hfit,hbk⟩:=hf.2.2 enc W base sp held n _ _ h0
 rw [hf.1,List.take_of_length_le (by simp;omega)] at ha
 refine ⟨a,ha,fun hw=>hfit ?_,fun ub uba hb=>?_⟩
 case refine_2 =>
  cases xs with
  | nil=>simp at hxs
  | cons y ys =>
   have:=hbk ub uba hb
   simp only [List.map_cons,hb.allc]
   simp only [List.getElem_cons_zero] at this
   omega
 cases xs with
 | nil=>simp at hxs
 | cons y ys =>
  simp only [List.map_cons,DataW.weightsEach,List.all_append,Bool.and_eq_true] at hw
  exact hw.1

theorem opensF_cons {α β:Type} {r:Rep α} {s:Rep β} {f:Field} {fs:List Field} (hf:Opens P f.type r) (hfs:OpensF P fs (f.offset+r.size) s):OpensF P (f::fs) f.offset (r.prod s):=by
 intro H enc W base sp held n cs xs hl hxs h
 have hrs:(r.prod s).size=r.size+s.size:=rfl
 have h0:=h 0 f rfl
 rw [List.getElem?_eq_getElem (by rw [hxs];simp)] at h0
 obtain ⟨a,ha,hfit,hbk⟩:=hf.2.2 enc W base sp held n _ _ h0
 rw [hf.1] at ha
 obtain ⟨b,hb,hfit',hbk'⟩:=hfs H enc W base sp held n cs xs.tail (by omega) (by simp [hxs]) (fun i g hg=>by
  have:=h (i+1) g (by simpa using hg)
  rw [this];simp)
 refine ⟨(a,b),⟨_,_,?_,ha,hb⟩,fun hw=>?_,fun ub uba hu=>?_⟩
 case refine_3 =>
  cases xs with
  | nil=>simp at hxs
  | cons y ys =>
   have h1:=hbk ub uba hu
   have h2:=hbk' ub uba hu
   simp only [List.map_cons,hu.allc]
   simp only [List.getElem_cons_zero,List.tail_cons] at h1 h2
   show r.bulk a+s.bulk b≤_
   omega
 case refine_2 =>
  cases xs with
  | nil=>simp at hxs
  | cons y ys =>
   simp only [List.map_cons,DataW.weightsEach,List.all_append,Bool.and_eq_true] at hw
   exact ⟨hfit hw.1,hfit' hw.2⟩
 rw [show cs.drop (f.offset+r.size)=(cs.drop f.offset).drop r.size by rw [List.drop_drop]]
 exact (List.take_append_drop _ _).symm

theorem opens_struct {α:Type} {r:Rep α} {fs:Array Field} (ht:P.underlying t=some (.struct fs)) (hc:P.cellsOf t=r.size) (hb:P.bytesOf t=r.bytes) (hfs:OpensF P fs.toList 0 r):Opens P t r:=by
 refine ⟨hc,hb,fun enc W base sp held fuel cs x h=>?_⟩
 obtain ⟨xs,n,_,rfl,hl,hxs,hf⟩:=DataW.trod_struct ht h
 obtain ⟨a,ha,hfit,hbk⟩:=hfs _ enc W base sp held n cs xs (by omega) (by simpa using hxs) (fun i f hi=>hf i f (by simpa using hi))
 refine ⟨a,by simpa using ha,fun hw=>hfit ?_,fun ub uba hb=>by have:=hbk ub uba hb;rw [hb.agg];omega⟩
 simpa [DataW.weights,ht] using hw

theorem opens_map {α β:Type} {r:Rep α} {f:β→α} {g:α→β} (hg:∀a,f (g a)=a) (h:Opens P t r):Opens P t (r.map f):=by
 refine ⟨h.1,h.2.1,fun enc W base sp held fuel cs x hx=>?_⟩
 obtain ⟨a,ha,hf,hb⟩:=h.2.2 enc W base sp held fuel cs x hx
 exact ⟨g a,by show r.ok _ _ _ _;rw [hg];exact ha,fun hw=>by show r.fit _;rw [hg];exact hf hw,by show BulkLe (r.bulk (f (g a))) _;rw [hg];exact hb⟩

/-- A struct's. -/
theorem open_argN {α:Type} {r:Rep α} {H:Type} {enc:TypeId×Value→H} {W:World} {base:Nat} {sp:Nat→Bool} {held:Bool} {v:Value} {d:DataW H} {ps:List MemPlace} {cs:Array Value} (ho:Opens P t r) (hv:v = .agg cs) (h:DataW.Trod enc P W base sp held t v d ps) :
  ∃a,r.atN W W.heap.size v a∧((d.weights P t).all (·≤reachBytes)=true→r.fit a)∧BulkLe (r.bulk a) d:=by
 obtain ⟨fuel,hf⟩:=h
 subst hv
 obtain ⟨a,ha,hfit,hbk⟩:=ho.2.2 enc W base sp held fuel _ _ hf
 exact ⟨a,⟨cs.toList,by simp,ha⟩,hfit,hbk⟩
end
end Go.Px

/-
  Memory in pieces: each piece lies in blocks of its own; what is done to one leaves the others.
-/
namespace Go.Px
open Go.RowKit

/-- A piece of memory. -/
structure Ch where
 ok:World→(Nat→Prop)→Prop
 keep:∀{w w':World} {X F F':Nat→Prop},ok w F→Chg X w w'→(∀b,b<w.heap.size→F b→¬X b)→(∀b,b<w.heap.size→F b→F' b)→ok w' F'

/-- Pieces, each with blocks of its own. -/
def allOk (L:List Ch) (w:World) (F:Nat→Prop):Prop :=
 ∃T:Nat→Nat,(∀i,T i≠0→F i∧i<w.heap.size)∧∀(k:Nat) (c:Ch),L[k]?=some c→c.ok w (fun i=>T i=k+1)

theorem allOk.keep {L:List Ch} {w w':World} {X F F':Nat→Prop} (h:allOk L w F) (hc:Chg X w w') (hX:∀b,b<w.heap.size→F b→¬X b) (hF:∀b,b<w.heap.size→F b→F' b):allOk L w' F':=by
 obtain ⟨T,ht,hk⟩:=h
 exact ⟨T,fun i hi=>⟨hF i (ht i hi).2 (ht i hi).1,Nat.lt_of_lt_of_le (ht i hi).2 hc.size⟩,fun k c hc'=>c.keep (hk k c hc') hc (fun b hb e=>hX b hb (ht b (by omega)).1) fun b _ e=>e⟩

def Ch.all (L:List Ch):Ch:=⟨allOk L,allOk.keep⟩
def Ch.ex {α:Type} (f:α→Ch):Ch:=⟨fun w F=>∃a,(f a).ok w F,fun ⟨a,h⟩ hc hX hF=>⟨a,(f a).keep h hc hX hF⟩⟩
def Ch.emp:Ch:=⟨fun _ _=>True,fun _ _ _ _=>trivial⟩

/-- From W on nothing has turned but blocks G of W's; and there are these pieces, in those or in new ones. -/
structure St (G:Nat→Prop) (W w:World) (L:List Ch):Prop where
 chg:Chg G W w
 all:allOk L w (fun i=>i<W.heap.size→G i)

abbrev noB:Nat→Prop:=fun _=>False

section
variable {G:Nat→Prop} {W w w':World} {L L':List Ch}

theorem St.start (h:Chg G W w):St G W w []:=⟨h,fun _=>0,fun i hi=>absurd rfl hi,fun k c hk=>by simp at hk⟩
theorem St.refl (G:Nat→Prop) (w:World):St G w w []:=St.start (Chg.refl _ _)

/-- What a call may do to a piece that it is given. -/
theorem St.enter {F:Nat→Prop} (h:allOk L w F):St F w w L:=by
 obtain ⟨T,ht,hk⟩:=h
 exact ⟨Chg.refl _ _,T,fun i hi=>⟨fun _=>(ht i hi).1,(ht i hi).2⟩,hk⟩
theorem St.leave {F:Nat→Prop} (h:St F w w' L):allOk L w' (fun i=>F i∨(w.heap.size≤i∧i<w'.heap.size)):=by
 obtain ⟨_,T,ht,hk⟩:=h
 refine ⟨T,fun i hi=>⟨?_,(ht i hi).2⟩,hk⟩
 by_cases hlt:i<w.heap.size
 ·exact Or.inl ((ht i hi).1 hlt)
 ·exact Or.inr ⟨by omega,(ht i hi).2⟩

theorem St.get (h:St G W w L) {k:Nat} {c:Ch} (hk:L[k]?=some c):∃F:Nat→Prop,c.ok w F∧∀i,F i→i<w.heap.size∧(i<W.heap.size→G i):=by
 obtain ⟨_,T,ht,hL⟩:=h
 exact ⟨_,hL k c hk,fun i hi=>⟨(ht i (by omega)).2,(ht i (by omega)).1⟩⟩

theorem St.old (h:St G W w L) (hc:Chg noB w w'):St G W w' L :=
 ⟨h.chg.trans' hc fun _ _ h=>h.elim,h.all.keep hc (fun _ _ _=>id) (fun _ _ h=>h)⟩

/-- A piece is turned. -/
theorem St.opn (h:St G W w L) {k:Nat} {c0:Ch} (hk:L[k]?=some c0) :
  ∃F:Nat→Prop,c0.ok w F∧(∀i,F i→i<w.heap.size∧(i<W.heap.size→G i))∧∀(w':World) (c:Ch),Chg F w w'→c.ok w' (fun i=>F i∨(w.heap.size≤i∧i<w'.heap.size))→St G W w' (L.set k c):=by
 obtain ⟨hc0,T,ht,hL⟩:=h
 refine ⟨fun i=>T i=k+1,hL k c0 hk,fun i hi=>⟨(ht i (by omega)).2,(ht i (by omega)).1⟩,fun w' c hc hok=>⟨?_,fun i=>if w.heap.size≤i∧i<w'.heap.size then k+1 else T i,fun i hi=>?_,fun j d hj=>?_⟩⟩
 ·exact hc0.trans' hc fun i hi e=>(ht i (by omega)).1 hi
 ·by_cases e:w.heap.size≤i∧i<w'.heap.size
  ·exact ⟨fun h=>by have:=hc0.size;omega,e.2⟩
  ·dsimp only at hi;rw [if_neg e] at hi
   exact ⟨(ht i hi).1,Nat.lt_of_lt_of_le (ht i hi).2 hc.size⟩
 ·rw [List.getElem?_set] at hj
  by_cases e:k=j
  ·subst e
   have hkl:=(List.getElem?_eq_some_iff.1 hk).1
   rw [if_pos rfl,if_pos hkl] at hj
   injection hj with hj
   subst hj
   refine c.keep (X:=noB) hok (Chg.refl _ _) (fun _ _ _=>id) fun i hi e=>?_
   rcases e with e | e
   ·have h1:=(ht i (by omega)).2
    dsimp only;rw [if_neg (by omega)];exact e
   ·dsimp only;rw [if_pos e]
  ·rw [if_neg e] at hj
   refine d.keep (hL j d hj) hc (fun i hi e1 e2=>by omega) fun i hi e1=>?_
   dsimp only;rw [if_neg (by omega)];exact e1

/-- New pieces. -/
theorem St.seq (h:St G W w L) (h2:St noB w w' L'):St G W w' (L++L'):=by
 obtain ⟨hc,T,ht,hL⟩:=h
 obtain ⟨hc2,T2,ht2,hL2⟩:=h2
 refine ⟨hc.trans' hc2 fun _ _ h=>h.elim,fun i=>if T2 i≠0 then T2 i+L.length else T i,fun i hi=>?_,fun k c hk=>?_⟩
 ·by_cases e:T2 i≠0
  ·exact ⟨fun hi=>((ht2 i e).1 (by have:=hc.size;omega)).elim,(ht2 i e).2⟩
  ·dsimp only at hi;rw [if_neg e] at hi
   exact ⟨(ht i hi).1,Nat.lt_of_lt_of_le (ht i hi).2 hc2.size⟩
 ·by_cases hkl:k<L.length
  ·rw [List.getElem?_append_left hkl] at hk
   refine c.keep (hL k c hk) hc2 (fun _ _ _=>id) fun i hi e=>?_
   dsimp only;rw [if_neg];exact e
   intro h0
   exact ((ht2 i h0).1 hi).elim
  ·rw [List.getElem?_append_right (by omega)] at hk
   refine c.keep (X:=noB) (hL2 _ c hk) (Chg.refl _ _) (fun _ _ _=>id) fun i hi e=>?_
   dsimp only;rw [if_pos (by omega)];omega

theorem St.take (h:St G W w L) (n:Nat):St G W w (L.take n):=by
 obtain ⟨hc,T,ht,hL⟩:=h
 refine ⟨hc,T,ht,fun k c hk=>hL k c ?_⟩
 rw [List.getElem?_take] at hk
 split at hk
 ·exact hk
 ·cases hk

/-- Some of the pieces, in another order. -/
theorem St.pick (h:St G W w L) (is:List Nat) (hnd:is.Nodup) (hL:is.map (fun i=>L[i]?)=L'.map some):St G W w L':=by
 obtain ⟨hc,T,ht,hk⟩:=h
 refine ⟨hc,fun i=>if T i=0 then 0 else if T i-1∈is then is.idxOf (T i-1)+1 else 0,fun i hi=>?_,fun k c hc'=>?_⟩
 ·refine ht i fun h0=>?_
  dsimp only at hi
  rw [if_pos h0] at hi
  exact hi rfl
 ·have h1:(is.map (fun i=>L[i]?))[k]?=some (some c):=by rw [hL,List.getElem?_map,hc'];rfl
  rw [List.getElem?_map] at h1
  cases hi:is[k]? with
  | none=>rw [hi] at h1;cases h1
  | some n =>
   rw [hi] at h1
   injection h1 with h1
   refine c.keep (X:=noB) (hk n c h1) (Chg.refl _ _) (fun _ _ _=>id) fun i _ e=>?_
   have hnm:n∈is:=List.mem_of_getElem? hi
   have hidx:is.idxOf n=k:=by
    have hkl:=(List.getElem?_eq_some_iff.1 hi).1
    have hke:=(List.getElem?_eq_some_iff.1 hi).2
    rw [←hke]
    exact hnd.idxOf_getElem k hkl
   have e':T i=n+1:=e
   simp only [e',Nat.add_sub_cancel,hnm,if_true,hidx]
   rw [if_neg (by omega)]

theorem St.push (h:St G W w L) {c:Ch} (hc:c.ok w noB):St G W w (L++[c]):=by
 refine h.seq (w':=w) ⟨Chg.refl _ _,fun _=>0,fun i hi=>absurd rfl hi,fun k d hk=>?_⟩
 match k,hk with
 | 0,hk=>injection hk with hk;subst hk;exact c.keep hc (Chg.refl noB _) (fun _ _ _=>id) (fun _ _ h=>h.elim)
 | k+1,hk=>simp at hk

/-- A piece is laid to another one. -/
theorem St.merge (h:St G W w L) {j k:Nat} {c d:Ch} (hj:L[j]?=some c) (hk:L[k]?=some d) (hjk:j≠k) {e:Ch} (he:∀F F',c.ok w F→d.ok w F'→e.ok w (fun i=>F i∨F' i)):St G W w ((L.set j Ch.emp).set k e):=by
 obtain ⟨hc,T,ht,hL⟩:=h
 refine ⟨hc,fun i=>if T i=j+1 then k+1 else T i,fun i hi=>?_,fun n x hn=>?_⟩
 ·by_cases e:T i=j+1
  ·exact ht i (by omega)
  ·dsimp only at hi;rw [if_neg e] at hi;exact ht i hi
 ·rw [List.getElem?_set] at hn
  by_cases e1:k=n
  ·subst e1
   have hkl:=(List.getElem?_eq_some_iff.1 hk).1
   rw [if_pos rfl,if_pos (by simpa using hkl)] at hn
   injection hn with hn
   subst hn
   refine e.keep (X:=noB) (he _ _ (hL j c hj) (hL k d hk)) (Chg.refl _ _) (fun _ _ _=>id) fun i hi e=>?_
   rcases e with e | e
   ·dsimp only;rw [if_pos e]
   ·dsimp only;rw [if_neg (by omega)];exact e
  ·rw [if_neg e1,List.getElem?_set] at hn
   by_cases e2:j=n
   ·subst e2
    have hjl:=(List.getElem?_eq_some_iff.1 hj).1
    rw [if_pos rfl,if_pos hjl] at hn
    injection hn with hn
    subst hn;trivial
   ·rw [if_neg e2] at hn
    refine x.keep (X:=noB) (hL n x hn) (Chg.refl _ _) (fun _ _ _=>id) fun i hi e=>?_
    dsimp only;rw [if_neg (by omega)];exact e

/-- A piece is seen in another way. -/
theorem St.turn (h:St G W w L) {k:Nat} {c d:Ch} (hk:L[k]?=some c) (hd:∀F,c.ok w F→d.ok w F):St G W w (L.set k d):=by
 obtain ⟨F,ho,_,hs⟩:=h.opn hk
 exact hs w d (Chg.refl _ _) (d.keep (hd F ho) (Chg.refl noB _) (fun _ _ _=>id) fun _ _ h=>Or.inl h)
end

/-! ### Kinds of pieces -/
/-- A block of its own. -/
def boxC (b:Nat) (t:TypeId) (cs:List Value):Ch where
 ok w F:=F b∧w.heap[b]?=some (.cells cs.toArray t (0,0))
 keep h hc hX hF:=by
  have hb:=(Array.getElem?_eq_some_iff.1 h.2).1
  exact ⟨hF _ hb h.1,(hc.block b hb (hX b hb h.1)).trans h.2⟩

/-- A row that is owned: it may grow. -/
def rowC (e:TypeId) (size:Nat) (a:Option Addr) (n c:Nat) (xs:List Value):Ch where
 ok w F:=w.ownsRow 0 e size (.slice a n c) n xs∧∀i,(Value.slice a n c).ownBlock=some i→F i
 keep h hc hX hF:=by
  have hb:=fun i hi=>(ownsRow_block h.1 (k:=i) hi).2
  refine ⟨?_,fun i hi=>hF i (hb i hi) (h.2 i hi)⟩
  refine ⟨h.1.1,?_⟩
  rcases h.1.2 with h2 | ⟨g,cap,cur,hv,hbs,hg,hr⟩
  ·exact Or.inl h2
  ·refine Or.inr ⟨g,cap,cur,hv,hbs,?_,hr⟩
   have:=hb g (by rw [hv];rfl)
   rw [hc.block g this (hX g this (h.2 g (by rw [hv];rfl)))]
   exact hg

/-- A map that is owned. -/
def mapC (P:Program) {κ:Type} (Y:KeyT κ) (k e:TypeId) (v:Value) (n:Nat) (f:κ→Int):Ch where
 ok w F:=MapOf P Y k e w v n f∧∀i,v = .map (some i)→F i
 keep h hc hX hF:=⟨h.1.chg hc fun i hi=>hX i (h.1.lt hi) (h.2 i hi),fun i hi=>hF i (h.1.lt hi) (h.2 i hi)⟩

/-- What lies in a block's cells. -/
def boxAt (w:World) (b:Nat):Nat→List Value→Prop
 | _,[]=>True
 | j,v::r=>w.cell? ⟨b,j,none⟩=some v∧boxAt w b (j+1) r

theorem boxAt_of {w:World} {b:Nat}:∀{cs:List Value} {j:Nat},(∀i u,cs[i]?=some u→w.cell? ⟨b,j+i,none⟩=some u)→boxAt w b j cs
 | [],_,_=>trivial
 | v::r,j,h=>⟨h 0 v rfl,boxAt_of (cs:=r) (j:=j+1) fun i u hi=>by rw [show j+1+i=j+(i+1) by omega];exact h (i+1) u (by simpa using hi)⟩

section
variable {G:Nat→Prop} {W w w':World} {L L':List Ch}

theorem box_of {b:Nat} {t:TypeId} {cs:List Value} {F:Nat→Prop} (h:(boxC b t cs).ok w F):boxAt w b 0 cs∧(∀j,w.frozen? ⟨b,j,none⟩=false)∧b<w.heap.size:=by
 refine ⟨boxAt_of fun i u hi=>?_,fun j=>?_,(Array.getElem?_eq_some_iff.1 h.2).1⟩
 ·simp only [World.cell?,h.2,Nat.zero_add]
  simpa using hi
 ·simp [World.frozen?,h.2]

theorem St.box (h:St G W w L) (k:Nat) {b:Nat} {t:TypeId} {cs:List Value} (hk:L[k]?=some (boxC b t cs)):boxAt w b 0 cs∧(∀j,w.frozen? ⟨b,j,none⟩=false)∧b<w.heap.size:=by
 obtain ⟨F,ho,_⟩:=h.get hk
 exact box_of ho

theorem chg_setCell (w:World) (p:Addr) (u:Value):Chg (·=p.block) w (w.setCell p u):=(Chg.refl (fun x=>x=p.block) w).setCell (p:=p) (Or.inl rfl) u

theorem St.set (h:St G W w L) (k:Nat) {b:Nat} {t:TypeId} {cs:List Value} (hk:L[k]?=some (boxC b t cs)) (j:Nat) (u:Value):St G W (w.setCell ⟨b,j,none⟩ u) (L.set k (boxC b t (cs.set j u))):=by
 obtain ⟨F,ho,_,hs⟩:=h.opn hk
 refine hs _ _ ((chg_setCell _ _ _).mono fun i _ e=>by rw [e];exact ho.1) ⟨Or.inl ho.1,?_⟩
 rw [heap_setCell_same w b j cs.toArray t u ho.2,List.setIfInBounds_toArray]

theorem St.alloc (h:St G W w L) (cs:Array Value) (t:TypeId):St G W (w.alloc (.cells cs t)) (L++[boxC w.heap.size t cs.toList]):=by
 refine h.seq ⟨(Chg.refl _ _).alloc _,fun i=>if i=w.heap.size then 1 else 0,fun i hi=>?_,fun k d hk=>?_⟩
 ·by_cases e:i=w.heap.size
  ·subst e;exact ⟨fun h=>absurd h (Nat.lt_irrefl _),by simp⟩
  ·dsimp only at hi;rw [if_neg e] at hi;exact absurd rfl hi
 ·match k,hk with
  | 0,hk=>injection hk with hk;subst hk;exact ⟨by simp,by simpa using World.alloc_heap_new w _⟩
  | k+1,hk=>simp at hk

theorem St.map (h:St G W w L) (P:Program) {κ:Type} (Y:KeyT κ) (k e:TypeId):St G W (w.alloc (.map #[] 0)) (L++[mapC P Y k e (.map (some w.heap.size)) 0 (fun _=>0)]):=by
 refine h.seq ⟨(Chg.refl _ _).alloc _,fun i=>if i=w.heap.size then 1 else 0,fun i hi=>?_,fun k d hk=>?_⟩
 ·by_cases e:i=w.heap.size
  ·subst e;exact ⟨fun h=>absurd h (Nat.lt_irrefl _),by simp⟩
  ·dsimp only at hi;rw [if_neg e] at hi;exact absurd rfl hi
 ·match k,hk with
  | 0,hk=>injection hk with hk;subst hk;exact ⟨MapOf.made _ _ _ _ _,fun i hi=>by injection hi with hi;injection hi with hi;simp [hi]⟩
  | k+1,hk=>simp at hk

/-- A row that is made of so many values. -/
theorem St.lit (h:St G W w L) (e:TypeId) (size n:Nat) (cs:Array Value) (hn:n≤maxLen) (hs:cs.size=n*size):St G W (w.alloc (.cells cs e)) (L++[rowC e size (some ⟨w.heap.size,0,none⟩) n n cs.toList]):=by
 refine h.seq ⟨(Chg.refl _ _).alloc _,fun i=>if i=w.heap.size then 1 else 0,fun i hi=>?_,fun k d hk=>?_⟩
 ·by_cases e:i=w.heap.size
  ·subst e;exact ⟨fun h=>absurd h (Nat.lt_irrefl _),by simp⟩
  ·dsimp only at hi;rw [if_neg e] at hi;exact absurd rfl hi
 ·match k,hk with
  | 0,hk=>injection hk with hk;subst hk;exact ⟨World.ownsRow_lit w cs n (Nat.zero_le _) hn hs,fun i hi=>by injection hi with hi;simp [←hi]⟩
  | k+1,hk=>simp at hk

theorem rowC_nil (w:World) (e:TypeId) (size:Nat) (F:Nat→Prop):(rowC e size none 0 0 []).ok w F:=⟨World.ownsRow_nil _ _ _ _,fun i hi=>by cases hi⟩
theorem St.nilRow (h:St G W w L) (e:TypeId) (size:Nat):St G W w (L++[rowC e size none 0 0 []]):=h.push (rowC_nil _ _ _ _)

/-- What is owned, at a place. -/
theorem row_at {e:TypeId} {size:Nat} {a:Option Addr} {n c:Nat} {xs:List Value} {F:Nat→Prop} (h:(rowC e size a n c xs).ok w F) {j:Nat} (hj:j<xs.length) :
  ∃g,a=some ⟨g,0,none⟩∧w.cell? ⟨g,j,none⟩=some xs[j]∧w.frozen? ⟨g,j,none⟩=false∧F g∧g<w.heap.size:=by
 rcases h.1.2 with ⟨h1,h2⟩ | ⟨g,cap,cur,hv,hb,hg,hn,hm,hs,ht⟩
 ·have:=h.1.1;rw [h2] at this;omega
 ·injection hv with hv
  refine ⟨g,hv,?_,?_,h.2 g (by rw [hv];rfl),(Array.getElem?_eq_some_iff.1 hg).1⟩
  ·have h3:cur.toList[j]?=some xs[j]:=by
    have h4:(cur.toList.take (n*size))[j]?=some xs[j]:=by rw [ht];exact List.getElem?_eq_getElem hj
    rw [List.getElem?_take] at h4
    split at h4
    ·exact h4
    ·cases h4
   simp [World.cell?,hg,←h3]
  ·simp [World.frozen?,hg]

theorem row_size {e:TypeId} {size:Nat} {a:Option Addr} {n c:Nat} {xs:List Value} {F:Nat→Prop} (h:(rowC e size a n c xs).ok w F):xs.length=n*size∧n≤c∧c≤maxLen:=by
 refine ⟨h.1.1,?_⟩
 rcases h.1.2 with ⟨h1,h2⟩ | ⟨g,cap,cur,hv,hb,hg,hn,hm,hs,ht⟩
 ·injection h1 with _ h1 h3;subst h2 h3;exact ⟨Nat.le_refl _,by simp [maxLen]⟩
 ·injection hv with _ _ hv;subst hv;exact ⟨hn,hm⟩

theorem St.rowSize (h:St G W w L) (k:Nat) {e:TypeId} {size:Nat} {a:Option Addr} {n c:Nat} {xs:List Value} (hk:L[k]?=some (rowC e size a n c xs)):xs.length=n*size∧n≤c∧c≤maxLen:=by
 obtain ⟨F,ho,_⟩:=h.get hk
 exact row_size ho

theorem St.rowAt (h:St G W w L) (k:Nat) {e:TypeId} {size:Nat} {a:Option Addr} {n c:Nat} {xs:List Value} (hk:L[k]?=some (rowC e size a n c xs)) {j:Nat} (hj:j<xs.length) :
  ∃g,a=some ⟨g,0,none⟩∧w.cell? ⟨g,j,none⟩=some xs[j]∧w.frozen? ⟨g,j,none⟩=false:=by
 obtain ⟨F,ho,_⟩:=h.get hk
 obtain ⟨g,h1,h2,h3,_⟩:=row_at ho hj
 exact ⟨g,h1,h2,h3⟩

theorem St.setRow (h:St G W w L) (k:Nat) {e:TypeId} {size g n c:Nat} {xs:List Value} (hk:L[k]?=some (rowC e size (some ⟨g,0,none⟩) n c xs)) (j:Nat) (u:Value) :
  St G W (w.setCell ⟨g,j,none⟩ u) (L.set k (rowC e size (some ⟨g,0,none⟩) n c (xs.set j u))):=by
 obtain ⟨F,ho,_,hs⟩:=h.opn hk
 have hg:=ho.2 g rfl
 refine hs _ _ ((chg_setCell _ _ _).mono fun i _ e=>by rw [e];exact hg) ⟨(ho.1.stored j u).1,fun i hi=>Or.inl (ho.2 i hi)⟩

/-- append, of any number of elements. -/
theorem St.appendN {P:Program} {X:Pan} {K:Value→World→Prop} (h:St G W w L) (k:Nat) {t ty e:TypeId} {z:Value} {size bytes:Nat} {a0:Option Addr} {n c:Nat} {xs:List Value} (hk:L[k]?=some (rowC e size a0 n c xs))
  (ht:P.underlying t=some (.slice e)) (hi:(P.info? e).map (fun i=>(i.zero,i.size,i.bytes))=some (some z,size,bytes)) (hzs:z.cells.size=size) (hsz:0<size)
  {a:Addr} {m c1:Nat} {news:List Value} (hl:news.length=m*size) (hnews:∀j u,news[j]?=some u→w.cell? (a.add j)=some u) (h1:∀u∈news,u.oneCell'=true)
  (h63:n+m≤maxLen) (hbytes:(n+m)*bytes≤maxBytes)
  (hK:∀a' cap w',St G W w' (L.set k (rowC e size a' (n+m) cap (xs++news)))→(0<m→∃g,a'=some ⟨g,0,none⟩)→K (.slice a' (n+m) cap) w') :
  RES X ((Builtin.append_ #[t,t] ty #[.slice a0 n c,.slice (some a) m c1]).run P w) K:=by
 obtain ⟨i,hi,hz,hs1,hb1⟩:∃i,P.info? e=some i∧i.zero=some z∧i.size=size∧i.bytes=bytes:=by
  cases hq:P.info? e with
  | none=>rw [hq] at hi;cases hi
  | some i=>rw [hq] at hi;simp at hi;exact ⟨i,rfl,hi.1,hi.2.1,hi.2.2⟩
 obtain ⟨F,ho,hF,hs⟩:=h.opn hk
 obtain ⟨v',w',hrun,hown',hgr,hnil,hb⟩:=run_append_own_at (P:=P) w 0 t ty e i z size bytes ht hi hz hs1 hb1 hzs hsz _ n xs ho.1 a m c1 news hl hnews h1 h63 hbytes (Nat.zero_le _)
 rw [hrun,RES_ok]
 have hc:Chg F w w':=⟨hgr.os,hgr.tape,hgr.output,hgr.size,fun j hj hF=>hgr.block j hj fun e=>hF (ho.2 j e.symm)⟩
 have hfin:∀a' cap,v' = .slice a' (n+m) cap→(0<m→∃g,a'=some ⟨g,0,none⟩)→K v' w':=by
  rintro a' cap rfl hm
  refine hK a' cap w' (hs w' _ hc ⟨hown',fun j hj=>?_⟩) hm
  rcases hb with hb | hb
  ·exact Or.inl (ho.2 j (hb ▸ hj))
  ·rw [hb] at hj;injection hj with hj
   have:=(ownsRow_block hown' (k:=j) (by rw [hb,hj])).2
   exact Or.inr ⟨by omega,this⟩
 rcases hown'.2 with ⟨h1,h2⟩ | ⟨g,cap,cur,h1,_⟩
 ·exact hfin none 0 (by rw [h1,h2]) fun h=>by omega
 ·exact hfin _ cap h1 fun _=>⟨g,rfl⟩

/-- append, of one element that was just laid down. -/
theorem St.append1 {P:Program} {X:Pan} {K:Value→World→Prop} (h:St G W w L) (k:Nat) {t ty e:TypeId} {z:Value} {size bytes:Nat} {a0:Option Addr} {n c:Nat} {xs:List Value} (hk:L[k]?=some (rowC e size a0 n c xs))
  (ht:P.underlying t=some (.slice e)) (hi:(P.info? e).map (fun i=>(i.zero,i.size,i.bytes))=some (some z,size,bytes)) (hzs:z.cells.size=size) (hsz:0<size)
  {c1:Nat} {news:List Value} (hl:news.length=size) (h1:∀u∈news,u.oneCell'=true)
  (h63:n+1≤maxLen) (hbytes:(n+1)*bytes≤maxBytes)
  (hK:∀g cap w',St G W w' (L.set k (rowC e size (some ⟨g,0,none⟩) (n+1) cap (xs++news)))→K (.slice (some ⟨g,0,none⟩) (n+1) cap) w') :
  RES X ((Builtin.append_ #[t,t] ty #[.slice a0 n c,.slice (some ⟨w.heap.size,0,none⟩) 1 c1]).run P (w.alloc (.cells news.toArray e))) K:=by
 have hc1:Chg noB w (w.alloc (.cells news.toArray e)):=(Chg.refl _ _).alloc _
 refine (h.old hc1).appendN k hk ht hi hzs hsz (by omega) (alloc_cells w news e rfl) h1 h63 hbytes fun a' cap w' h' hm=>?_
 obtain ⟨g,rfl⟩:=hm (by omega)
 exact hK g cap w' h'

theorem St.append1d {P:Program} {X:Pan} {K:Value→World→Prop} (h:St G W w L) (k:Nat) {t ty e:TypeId} {z:Value} {size bytes:Nat} {a0:Option Addr} {n c:Nat} {xs:List Value} (hk:L[k]?=some (rowC e size a0 n c xs))
  (ht:P.underlying t=some (.slice e)) (hi:(P.info? e).map (fun i=>(i.zero,i.size,i.bytes))=some (some z,size,bytes)) (hzs:z.cells.size=size) (hsz:0<size)
  {c1:Nat} {news:List Value} (hl:news.length=size) (h1:∀u∈news,u.oneCell'=true)
  (h63:n+1≤maxLen) (hbytes:(n+1)*bytes≤maxBytes)
  (hK:∀g cap w',St G W w' (L.set k (rowC e size (some ⟨g,0,none⟩) (n+1) cap (xs++news)))→K (.slice (some ⟨g,0,none⟩) (n+1) cap) w') :
  RES X ((Builtin.append_ #[t,t] ty #[.slice a0 n c,.slice (some ⟨w.heap.size,0,none⟩) 1 c1]).run P (w.alloc (.cells news.toArray e)).drew) K:=by
 have hc1:Chg noB w (w.alloc (.cells news.toArray e)).drew:=((Chg.refl _ _).alloc _).drew
 refine (h.old hc1).appendN k hk ht hi hzs hsz (by omega) (fun j u hj=>(alloc_cells w news e rfl j u hj)) h1 h63 hbytes fun a' cap w' h' hm=>?_
 obtain ⟨g,rfl⟩:=hm (by omega)
 exact hK g cap w' h'

open Classical in
/-- A map's entry is set. -/
theorem St.mapSet {P:Program} {κ:Type} {Y:KeyT κ} {t kt e:TypeId} (M:MapTy P Y t kt e) (h:St G W w L) (k:Nat) {b n:Nat} {f:κ→Int} (hk:L[k]?=some (mapC P Y kt e (.map (some b)) n f)) (a:κ) (ha:Y.good a) (hn:n<maxLen) {x:Int} (hx:inI64 x) (hx0:x≠0) :
  ∃w',(Instr.mapUpdate t (.map (some b)) (Y.val a) (.int .i64 x)).run P w = .ok () w'∧St G W w' (L.set k (mapC P Y kt e (.map (some b)) (if f a=0 then n+1 else n) (fun c=>if c=a then x else f c))):=by
 obtain ⟨F,ho,hF,hs⟩:=h.opn hk
 obtain ⟨w',hrun,hm,hg⟩:=ho.1.update M a ha hn hx hx0
 exact ⟨w',hrun,hs w' _ ⟨hg.os,hg.tape,hg.output,hg.size,fun j hj hF=>hg.block j hj fun e=>hF (ho.2 j (by injection e with e;rw [e]))⟩ ⟨hm,fun i hi=>Or.inl (ho.2 i hi)⟩⟩

theorem St.mapGet {P:Program} {κ:Type} {Y:KeyT κ} {t kt e:TypeId} (M:MapTy P Y t kt e) (h:St G W w L) (k:Nat) {v:Value} {n:Nat} {f:κ→Int} (hk:L[k]?=some (mapC P Y kt e v n f)) (a:κ) (ha:Y.good a):(Instr.lookup t v (Y.val a) false).run P w = .ok (.int .i64 (f a)) w:=by
 obtain ⟨F,ho,_⟩:=h.get hk
 exact ho.1.lookup M a ha
end

/-! ### Rows of structs -/
theorem flat_at {α:Type} {enc:α→List Value} {size:Nat}:∀{l:List α} {i:Nat} {x:α},(∀x∈l,(enc x).length=size)→l[i]?=some x→∀{j:Nat},j<size→(l.flatMap enc)[i*size+j]?=(enc x)[j]?
 | [],_,_,_,h,_,_=>by simp at h
 | y::l,0,x,hs,h,j,hj=>by
  simp at h;subst h
  rw [List.flatMap_cons,Nat.zero_mul,Nat.zero_add,List.getElem?_append_left (by rw [hs y (by simp)];exact hj)]
 | y::l,i+1,x,hs,h,j,hj=>by
  rw [List.flatMap_cons,List.getElem?_append_right (by rw [hs y (by simp),Nat.succ_mul];omega),hs y (by simp),Nat.succ_mul,show i*size+size+j-size=i*size+j by omega]
  exact flat_at (fun z hz=>hs z (by simp [hz])) (by simpa using h) hj
/-- An element of a row of structs. -/
theorem row_elem {α:Type} {enc:α→List Value} {w:World} {e:TypeId} {size:Nat} {a:Option Addr} {n c:Nat} {l:List α} {F:Nat→Prop} (h:(rowC e size a n c (l.flatMap enc)).ok w F) (hsz:∀x∈l,(enc x).length=size) (hpos:0<size) {i:Nat} {x:α} (hi:l[i]?=some x) :
  ∃g,a=some ⟨g,0,none⟩∧(∀j u,(enc x)[j]?=some u→w.cell? ⟨g,i*size+j,none⟩=some u)∧(∀j,w.frozen? ⟨g,j,none⟩=false)∧F g∧g<w.heap.size:=by
 have hlt:∀j,j<size→i*size+j<(l.flatMap enc).length:=fun j hj=>by
  have h1:=flat_at hsz hi hj
  have h2:(enc x)[j]?=some ((enc x)[j]'(by rw [hsz x (List.mem_of_getElem? hi)];exact hj)):=List.getElem?_eq_getElem _
  rw [h2] at h1
  exact (List.getElem?_eq_some_iff.1 h1).1
 obtain ⟨g,e1,_,_,hF,hg⟩:=row_at h (hlt 0 hpos)
 subst e1
 refine ⟨g,rfl,fun j u hj=>?_,fun j=>?_,hF,hg⟩
 ·have hjl:j<size:=by have:=(List.getElem?_eq_some_iff.1 hj).1;rwa [hsz x (List.mem_of_getElem? hi)] at this
  obtain ⟨g',e2,hc,_⟩:=row_at h (hlt j hjl)
  injection e2 with e2;injection e2 with e2;subst e2
  rw [hc,←List.getElem?_eq_getElem (hlt j hjl),flat_at hsz hi hjl]
  exact hj
 ·rcases h.1.2 with ⟨h1,h2⟩ | ⟨g',cap,cur,hv,hb,hg',hn,hm,hs,ht⟩
  ·cases h1
  ·injection hv with hv;injection hv with hv;injection hv with hv;subst hv
   simp [World.frozen?,hg']

/-! ### A struct's cells, laid down -/
theorem fold2 (a b c d:Value):Array.foldl (fun (cs:Array Value) (x:Value×Nat)=>cs.setIfInBounds x.snd x.fst) #[a,b] (Value.agg #[c,d]).cells.zipIdx 0 2=#[c,d]:=rfl
theorem fold3 (a b c d e f:Value):Array.foldl (fun (cs:Array Value) (x:Value×Nat)=>cs.setIfInBounds x.snd x.fst) #[a,b,c] (Value.agg #[d,e,f]).cells.zipIdx 0 3=#[d,e,f]:=rfl
theorem fold4 (a b c d e f g h:Value):Array.foldl (fun (cs:Array Value) (x:Value×Nat)=>cs.setIfInBounds x.snd x.fst) #[a,b,c,d] (Value.agg #[e,f,g,h]).cells.zipIdx 0 4=#[e,f,g,h]:=rfl
theorem fold1 (A:Array Value) (v:Value):Array.foldl (fun (cs:Array Value) (x:Value×Nat)=>cs.setIfInBounds x.snd x.fst) A #[v].zipIdx 0 1=A.setIfInBounds 0 v:=rfl
theorem fold1k (A:Array Value) (k:Nat) (v:Value):Array.foldl (fun (cs:Array Value) (x:Value×Nat)=>cs.setIfInBounds (k+x.snd) x.fst) A #[v].zipIdx 0 1=A.setIfInBounds k v:=rfl
section
variable (a:Option Addr) (n c:Nat) (k:IntKind) (x:Int) (s:ByteArray) (b:Bool) (m:Option Nat)
theorem cells_slice:(Value.slice a n c).cells=#[.slice a n c]:=rfl
theorem cells_int:(Value.int k x).cells=#[.int k x]:=rfl
theorem cells_string:(Value.string s).cells=#[.string s]:=rfl
theorem cells_bool:(Value.bool b).cells=#[.bool b]:=rfl
theorem cells_map:(Value.map m).cells=#[.map m]:=rfl
theorem cells_pointer:(Value.pointer a).cells=#[.pointer a]:=rfl
theorem fold1_string (z:Value):Array.foldl (fun (cs:Array Value) (x:Value×Nat)=>cs.setIfInBounds x.snd x.fst) #[z] (Value.string s).cells.zipIdx 0 1=#[(Value.string s)]:=rfl
theorem fold1_int (z:Value):Array.foldl (fun (cs:Array Value) (x:Value×Nat)=>cs.setIfInBounds x.snd x.fst) #[z] (Value.int k x).cells.zipIdx 0 1=#[(Value.int k x)]:=rfl
theorem fold1_slice (z:Value):Array.foldl (fun (cs:Array Value) (x:Value×Nat)=>cs.setIfInBounds x.snd x.fst) #[z] (Value.slice a n c).cells.zipIdx 0 1=#[(Value.slice a n c)]:=rfl
theorem fold1_bool (z:Value):Array.foldl (fun (cs:Array Value) (x:Value×Nat)=>cs.setIfInBounds x.snd x.fst) #[z] (Value.bool b).cells.zipIdx 0 1=#[(Value.bool b)]:=rfl
end
attribute [go_sem] fold1_string fold1_int fold1_slice fold1_bool
attribute [go_sem] fold1 fold1k cells_slice cells_int cells_string cells_bool cells_map cells_pointer
attribute [go_sem] fold2 fold3 fold4
end Go.Px

/-
  A queue: a row that may begin anywhere in its block, and may grow.
-/
namespace Go.Px
open Go.RowKit
set_option linter.unusedSectionVars false
/-- n elements from an address on, with room for c. -/
def qC (size:Nat) (a:Addr) (n c:Nat) (xs:List Value):Ch where
 ok w F:=xs.length=n*size∧n≤c∧c≤maxLen∧a.spot=none∧F a.block∧a.block<w.heap.size∧(∀j u,xs[j]?=some u→w.cell? ⟨a.block,a.off+j,none⟩=some u)∧(∀j,j<c*size→(w.cell? ⟨a.block,a.off+j,none⟩).isSome=true)∧∀j,w.frozen? ⟨a.block,j,none⟩=false
 keep h hc hX hF:=by
  obtain ⟨h1,h2,h3,h4,h5,h6,h7,h8,h9⟩:=h
  have hb:=hc.block _ h6 (hX _ h6 h5)
  have hce:∀o,(_:World).cell? ⟨a.block,o,none⟩=_:=fun o=>World.cell?_of_block (a:=⟨a.block,o,none⟩) hb
  refine ⟨h1,h2,h3,h4,hF _ h6 h5,Nat.lt_of_lt_of_le h6 hc.size,fun j u hj=>by rw [hce];exact h7 j u hj,fun j hj=>by rw [hce];exact h8 j hj,fun j=>?_⟩
  have:=h9 j
  unfold World.frozen? at this ⊢
  rw [hb];exact this
section
variable {G:Nat→Prop} {W w:World} {L:List Ch} {size n c:Nat} {a:Addr} {xs:List Value}
theorem row_q {e:TypeId} {g:Nat} {F:Nat→Prop} (h:(rowC e size (some ⟨g,0,none⟩) n c xs).ok w F):(qC size ⟨g,0,none⟩ n c xs).ok w F:=by
 obtain ⟨hl,hnc,hcm⟩:=row_size h
 rcases h.1.2 with ⟨h1,_⟩ | ⟨g',cap,cur,hv,hb,hg,hn,hm,hs,ht⟩
 ·cases h1
 ·injection hv with hv1 _ hv3
  injection hv1 with hv1;injection hv1 with hv1
  subst hv1 hv3
  refine ⟨hl,hnc,hcm,rfl,h.2 _ rfl,(Array.getElem?_eq_some_iff.1 hg).1,fun j u hj=>?_,fun j hj=>?_,fun j=>by simp [World.frozen?,hg]⟩
  ·simp only [World.cell?,hg,Nat.zero_add]
   have h4:(cur.toList.take (n*size))[j]?=some u:=by rw [ht];exact hj
   rw [List.getElem?_take] at h4
   split at h4
   ·simpa using h4
   ·cases h4
  ·simp only [World.cell?,hg,Nat.zero_add]
   have:j<cur.size:=by rw [hs];exact hj
   simp [this]
theorem St.qAt (h:St G W w L) (k:Nat) (hk:L[k]?=some (qC size a n c xs)):xs.length=n*size∧n≤c∧c≤maxLen∧a.spot=none∧(∀j u,xs[j]?=some u→w.cell? ⟨a.block,a.off+j,none⟩=some u):=by
 obtain ⟨F,⟨h1,h2,h3,h4,_,_,h7,_⟩,_⟩:=h.get hk
 exact ⟨h1,h2,h3,h4,h7⟩
/-- append, behind the queue. -/
theorem St.qAppend {P:Program} {X:Pan} {K:Value→World→Prop} (h:St G W w L) (k:Nat) {t ty e:TypeId} {z:Value} {bytes:Nat} (hk:L[k]?=some (qC size a n c xs))
  (ht:P.underlying t=some (.slice e)) (hi:(P.info? e).map (fun i=>(i.zero,i.size,i.bytes))=some (some z,size,bytes)) (hzs:z.cells.size=size) (hsz:0<size)
  {ad:Addr} {m c1:Nat} {news:List Value} (hl:news.length=m*size) (hnews:∀j u,news[j]?=some u→w.cell? (ad.add j)=some u) (h1:∀u∈news,u.oneCell'=true)
  (h63:n+m≤maxLen) (hbytes:(n+m)*bytes≤maxBytes)
  (hK:∀a' c' w',St G W w' (L.set k (qC size a' (n+m) c' (xs++news)))→K (.slice (some a') (n+m) c') w') :
  RES X ((Builtin.append_ #[t,t] ty #[.slice (some a) n c,.slice (some ad) m c1]).run P w) K:=by
 obtain ⟨i,hi,hz,hs1,hb1⟩:∃i,P.info? e=some i∧i.zero=some z∧i.size=size∧i.bytes=bytes:=by
  cases hq:P.info? e with
  | none=>rw [hq] at hi;cases hi
  | some i=>rw [hq] at hi;simp at hi;exact ⟨i,rfl,hi.1,hi.2.1,hi.2.2⟩
 obtain ⟨F,⟨q1,q2,q3,q4,q5,q6,q7,q8,q9⟩,hF,hs⟩:=h.opn hk
 obtain ⟨g,o,sp⟩:=a
 simp only at q4 q5 q6 q7 q8 q9
 subst q4
 by_cases hroom:n+m≤c
 ·have hle:n*size+m*size≤c*size:=by rw [←Nat.add_mul];exact Nat.mul_le_mul_right _ hroom
  have hrun:=run_append_room_cells (P:=P) w t ty e i ht hi g o n c ad m c1 news (by rw [hs1];exact hl) hnews h1 hroom (fun j hj=>by rw [hs1,Nat.add_assoc];exact q8 _ (by omega)) (fun j hj=>q9 _)
  rw [hrun,RES_ok,hs1]
  refine hK ⟨g,o,none⟩ c _ (hs _ _ ⟨World.os_setCells _ _ _ _,?_,World.output_setCells _ _ _ _,?_,fun j hj hF=>World.heap_setCells_other w g _ news hj fun e=>hF (e ▸ q5)⟩ ⟨?_,hroom,q3,rfl,Or.inl q5,?_,fun j u hj=>?_,fun j hj=>?_,fun j=>?_⟩)
  ·have:∀(vs:List Value) (o:Nat) (w:World),(w.setCells g o vs).tape=w.tape:=by
    intro vs
    induction vs with
    | nil=>intro o w;rfl
    | cons v r ih=>intro o w;rw [World.setCells,ih];simp
   exact this _ _ _
  ·have:∀(vs:List Value) (o:Nat) (w:World),(w.setCells g o vs).heap.size=w.heap.size:=by
    intro vs
    induction vs with
    | nil=>intro o w;rfl
    | cons v r ih=>intro o w;rw [World.setCells,ih];simp
   rw [this];exact Nat.le_refl _
  ·rw [List.length_append,q1,hl,Nat.add_mul]
  ·have:∀(vs:List Value) (o:Nat) (w:World),(w.setCells g o vs).heap.size=w.heap.size:=by
    intro vs
    induction vs with
    | nil=>intro o w;rfl
    | cons v r ih=>intro o w;rw [World.setCells,ih];simp
   rw [this];exact q6
  ·by_cases hjl:j<xs.length
   ·rw [List.getElem?_append_left hjl] at hj
    rw [World.cell?_setCells_out]
    ·exact q7 j u hj
    ·intro _ _;left;show o+j<o+n*size;omega
   ·rw [List.getElem?_append_right (by omega),q1] at hj
    have hjn:=(List.getElem?_eq_some_iff.1 hj).1
    have:=World.cell?_setCells_in g news (o+n*size) w (fun j' hj'=>by rw [Nat.add_assoc];exact q8 _ (by omega)) (j-n*size) hjn
    rw [show o+n*size+(j-n*size)=o+j by omega] at this
    show (w.setCells g (o+n*size) news).cell? ⟨g,o+j,none⟩=some u
    rw [this]
    rw [(List.getElem?_eq_some_iff.1 hj).2]
  ·exact World.isSome_setCells g news _ w _ (q8 j hj)
  ·rw [World.frozen?_setCells];exact q9 j
 ·obtain ⟨v',w',hrun,hown,hgr⟩:=run_append_arg_grows (P:=P) w t ty e i z size bytes ht hi hz hs1 hb1 hzs hsz ⟨g,o,none⟩ n c xs q1 (fun j u hj=>by rw [Addr.add_lit];exact q7 j u hj) ad m c1 news hl hnews (by omega) h63 hbytes
  rw [hrun,RES_ok]
  have hc:Chg F w w':=⟨hgr.os,hgr.tape,hgr.output,hgr.size,fun j hj _=>hgr.block j hj (by simp)⟩
  rcases hown.2 with ⟨h1',h2'⟩ | ⟨g',cap,cur,h1',hb',_⟩
  ·omega
  ·subst h1'
   have hlt:=(ownsRow_block hown (k:=g') rfl).2
   refine hK ⟨g',0,none⟩ cap w' (hs w' _ hc (row_q (e:=e) ⟨⟨hown.1,?_⟩,fun j hj=>?_⟩))
   ·rcases hown.2 with h | ⟨g2,cap2,cur2,e1,_,e3⟩
    ·exact Or.inl h
    ·exact Or.inr ⟨g2,cap2,cur2,e1,Nat.zero_le _,e3⟩
   ·injection hj with hj;subst hj
    exact Or.inr ⟨hb',hlt⟩
end
end Go.Px
