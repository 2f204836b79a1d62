/-
  Texts of this claim: PxTxt, PxLend, PxOpen, PxRowsN.
-/
import Derived.Test.YtckbgeedlobfaaaDoorY02
import Derived.Lib.FrozenHead2
import Derived.Laws.IdiomStrings
import Derived.Laws.OwnMore
import Derived.SliceStrings
/-
  Texts that grow, in pieces.
-/
namespace Go.Px
open Go.RowKit

/-- A text. -/
abbrev Txt:=List UInt8
def tx (s:ByteArray):Txt:=s.data.toList

section
variable {G:Nat→Prop} {W w w':World} {L L':List Ch} {m:Bool}

end
end Go.Px

/-
  Calls that are given a piece and a list that was laid down just ahead.
-/
namespace Go.Px
open Go.RowKit
open Classical in
/-- One piece alone. -/
theorem St.one {F:Nat→Prop} {w:World} {c:Ch} (h:c.ok w F):St F w w [c]:=St.enter ⟨fun i=>if F i∧i<w.heap.size then 1 else 0,fun i hi=>by
  by_cases e:F i∧i<w.heap.size
  ·exact e
  ·dsimp only at hi;rw [if_neg e] at hi;exact absurd rfl hi,fun k d hk=>by
  match k,hk with
  | 0,hk=>injection hk with hk;subst hk;exact c.keep h (Chg.refl noB _) (fun _ _ _=>id) fun i h1 h2=>by simp [h1,h2]
  | k+1,hk=>simp at hk⟩
section
variable {G:Nat→Prop} {W w w1:World} {L:List Ch}
end

section
variable {G:Nat→Prop} {W w:World} {L:List Ch}
theorem flat_len' {α:Type} {enc:α→List Value} {size:Nat}:∀l:List α,(∀x∈l,(enc x).length=size)→(l.flatMap enc).length=l.length*size
 | [],_=>by simp
 | x::t,h=>by rw [List.flatMap_cons,List.length_append,h x (by simp),flat_len' t fun y hy=>h y (by simp [hy]),List.length_cons,Nat.succ_mul];omega
/-- append, of all that a slice has. -/
theorem St.appendRd {α:Type} {r:Rep α} {enc:α→List Value} {P:Program} {X:Pan} {K:Value→World→Prop} (h:St G W w L) (k:Nat) {t ty e:TypeId} {z:Value} {bytes:Nat} {a0:Option Addr} {n c:Nat} {xs:List Value} (hk:L[k]?=some (rowC e r.size a0 n c xs))
  (ht:P.underlying t=some (.slice e)) (hi:(P.info? e).map (fun i=>(i.zero,i.size,i.bytes))=some (some z,r.size,bytes)) (hzs:z.cells.size=r.size) (hsz:0<r.size)
  {A:Option Addr} {c1 B:Nat} {l:List α} (hr:(rSlice r).at1 w B (.slice A l.length c1) l) (henc:∀{ys x},r.ok w B ys x→x∈l→ys=enc x) (hone:∀x∈l,∀u∈enc x,u.oneCell'=true) (hlen:∀x∈l,(enc x).length=r.size)
  (h63:n+l.length≤maxLen) (hbytes:(n+l.length)*bytes≤maxBytes)
  (hK:∀a' cap w',St G W w' (L.set k (rowC e r.size a' (n+l.length) cap (xs++l.flatMap enc)))→K (.slice a' (n+l.length) cap) w') :
  RES X ((Builtin.append_ #[t,t] ty #[.slice a0 n c,.slice A l.length c1]).run P w) K:=by
 cases A with
 | none =>
  have hl:l=[]:=by
   obtain ⟨A',c',hv,h1,h2,h3,h4⟩:=hr
   rcases Nat.eq_zero_or_pos l.length with h0 | h0
   ·exact List.eq_nil_of_length_eq_zero h0
   ·obtain ⟨b,o,e,_⟩:=h4 h0
    injection hv with hv;injection hv with hA;rw [e] at hA;cases hA
  subst hl
  obtain ⟨i,hi',hz,hs1,hb1⟩:∃i,P.info? e=some i∧i.zero=some z∧i.size=r.size∧i.bytes=bytes:=by
   cases hq:P.info? e with
   | none=>rw [hq] at hi;cases hi
   | some i=>rw [hq] at hi;simp at hi;exact ⟨i,rfl,hi.1,hi.2.1,hi.2.2⟩
  obtain ⟨F,ho,_⟩:=h.get hk
  have hrun:(Builtin.append_ #[t,t] ty #[.slice a0 n c,.slice none 0 c1]).run P w = .ok (.slice a0 n c) w:=by
   rcases ho.1.2 with ⟨h1,rfl⟩ | ⟨g,cap,cur,h1,_,_,hnc,_⟩
   ·injection h1 with h1 h2 h3;subst h1 h3
    simp [Builtin.append_,run_underlying ht,sizeOf,typeInfo,hi',Builtin.lenOf,Builtin.firstCells]
   ·injection h1 with h1 h2 h3;subst h1 h3
    simp [Builtin.append_,run_underlying ht,sizeOf,typeInfo,hi',Builtin.lenOf,Builtin.firstCells,hnc,storeCells]
  rw [List.length_nil,hrun,RES_ok]
  exact hK a0 c w (h.turn hk fun F hf=>by simpa using hf)
 | some a =>
  refine h.appendN k hk ht hi hzs hsz (flat_len' l hlen) (fun j u hj=>?_) (fun u hu=>?_) h63 hbytes fun a' cap w' h' _=>hK a' cap w' h'
  ·have hlen':=flat_len' l hlen
   have hjl:j<l.length*r.size:=by rw [←hlen'];exact (List.getElem?_eq_some_iff.1 hj).1
   have hi2:j / r.size<l.length:=(Nat.div_lt_iff_lt_mul hsz).2 hjl
   have hm:j % r.size<r.size:=Nat.mod_lt _ hsz
   have hdm:j / r.size*r.size+j % r.size=j:=by rw [Nat.mul_comm];exact Nat.div_add_mod j r.size
   obtain ⟨b',o',ys,hA,hb,hok,hc⟩:=slice_at hr hi2
   injection hA with hA;subst hA
   have hy:=henc hok (List.getElem_mem hi2)
   have hf:=flat_at hlen (List.getElem?_eq_getElem hi2) hm
   rw [hdm,hj] at hf
   have:=hc (j % r.size) u (by rw [hy];exact hf.symm)
   rw [Addr.add_lit,show o'+j=o'+(j / r.size*r.size+j % r.size) by omega]
   exact this
  ·obtain ⟨x,hx,hu⟩:=List.mem_flatMap.1 hu
   exact hone x hx u hu
end
end Go.Px

/-
  From a reading to the way in which data lie.
-/
namespace Go.Px
open Go.ChangeShapes Go.WideShapes Go.ChangeAt Go.RowKit

/-- A way of telling how much a reading holds. -/
structure BulkOf {H:Type} (ub:DataW H→Nat) (uba:List (DataW H)→Nat):Prop where
 str:∀b,ub (.lit (.string b))=b.length+1
 lit:∀l,1≤ub (.lit l)
 nil:1≤ub .nil
 slice:∀e s,ub (.slice e s)=uba e+uba s+1
 agg:∀p,ub (.agg p)=uba p+1
 all0:uba []=0
 allc:∀d r,uba (d::r)=ub d+uba r
/-- No more than any such way tells. -/
def BulkLe {H:Type} (n:Nat) (d:DataW H):Prop:=∀(ub:DataW H→Nat) (uba:List (DataW H)→Nat),BulkOf ub uba→n≤ub d

/-- What is read as a type lies so. -/
def Opens {α:Type} (P:Program) (t:TypeId) (r:Rep α):Prop :=
 P.cellsOf t=r.size∧P.bytesOf t=r.bytes∧∀{H:Type} (enc:TypeId×Value→H) (W:World) (base:Nat) (sp:Nat→Bool) (held:Bool) (fuel:Nat) (cs:List Value) (x:DataW H×List MemPlace),
  DataW.trod enc P W base sp held fuel t cs=some x→∃a,r.ok W W.heap.size cs a∧((x.1.weights P t).all (·≤reachBytes)=true→r.fit a)∧BulkLe (r.bulk a) x.1

section
variable {P:Program} {t:TypeId}
theorem opens_str (ht:P.underlying t=some .string) (hc:P.cellsOf t=1) (hb:P.bytesOf t=16):Opens P t rStr:=by
 refine ⟨hc,hb,fun enc W base sp held fuel cs x h=>?_⟩
 obtain ⟨s,rfl,rfl,hs⟩:=DataW.trod_string ht h
 refine ⟨s,⟨rfl,hs⟩,fun hw=>?_,fun ub uba hb=>by rw [hb.str];simp [rStr]⟩
 have:s.size≤reachBytes:=by simpa [DataW.weights] using hw
 exact this

theorem str_at1 {w:World} {B:Nat} {v:Value} {s:ByteArray} (h:rStr.at1 w B v s):v = .string s∧s.size≤maxLen:=by
 obtain ⟨h1,h2⟩:=h
 injection h1 with h1
 exact ⟨h1,h2⟩
/-- An argument of one cell. -/
theorem open_arg1 {α:Type} {r:Rep α} {H:Type} {enc:TypeId×Value→H} {W:World} {base:Nat} {sp:Nat→Bool} {held:Bool} {v:Value} {d:DataW H} {ps:List MemPlace} (ho:Opens P t r) (hv:v.cells=#[v]) (h:DataW.Trod enc P W base sp held t v d ps) :
  ∃a,r.at1 W W.heap.size v a∧((d.weights P t).all (·≤reachBytes)=true→r.fit a)∧BulkLe (r.bulk a) d:=by
 obtain ⟨fuel,hf⟩:=h
 rw [hv] at hf
 exact ho.2.2 enc W base sp held fuel _ _ hf
end
end Go.Px

/-
  Rows of numbers that are owned; what they hold does not matter.
-/
namespace Go.Px
open Go.RowKit
/-- Rows of numbers that are owned: how long each is. -/
def rowsN (vs:List Value) (ns:List Nat):Ch where
 ok w F:=vs.length=ns.length∧∀(i:Nat) v n,vs[i]?=some v→ns[i]?=some n→∃a c xs,v = .slice a n c∧(rowC 3 1 a n c xs).ok w F
 keep h hc hX hF:=⟨h.1,fun i v n h1 h2=>by obtain ⟨a,c,xs,hv,hr⟩:=h.2 i v n h1 h2;exact ⟨a,c,xs,hv,(rowC 3 1 a n c xs).keep hr hc hX hF⟩⟩

section
variable {G:Nat→Prop} {W w:World} {L:List Ch}
theorem St.setRowsN (h:St G W w L) (k:Nat) {vs:List Value} {ns:List Nat} (hk:L[k]?=some (rowsN vs ns)) {i g n c:Nat} (hv:vs[i]?=some (.slice (some ⟨g,0,none⟩) n c)) (j:Nat) (u:Value):St G W (w.setCell ⟨g,j,none⟩ u) (L.set k (rowsN vs ns)):=by
 obtain ⟨F,ho,_,hs⟩:=h.opn hk
 have hil:=(List.getElem?_eq_some_iff.1 hv).1
 have hin:i<ns.length:=by rw [←ho.1];exact hil
 obtain ⟨a',c',xs',hv',hr'⟩:=ho.2 i _ ns[i] hv (List.getElem?_eq_getElem hin)
 have hg:F g:=hr'.2 g (by rw [←hv'];rfl)
 refine hs _ _ ((chg_setCell _ _ _).mono fun i _ e=>by rw [e];exact hg) ⟨ho.1,fun i' v n' h1 h2=>?_⟩
 obtain ⟨a,c,xs,rfl,hr⟩:=ho.2 i' v n' h1 h2
 by_cases e:(Value.slice a n' c).ownBlock=some g
 ·have ha:a=some ⟨g,0,none⟩:=by
   rcases hr.1.2 with ⟨h3,_⟩ | ⟨g',cap,cur,h3,_⟩
   ·rw [h3] at e;cases e
   ·injection h3 with h3;subst h3;injection e with e;rw [←e]
  subst ha
  exact ⟨_,c,xs.set j u,rfl,(hr.1.stored j u).1,fun i hi=>Or.inl (hr.2 i hi)⟩
 ·exact ⟨a,c,xs,rfl,(rowC 3 1 a n' c xs).keep (X:=(·=g)) (F:=fun i=>F i∧i≠g) ⟨hr.1,fun i hi=>⟨hr.2 i hi,fun h9=>e (h9 ▸ hi)⟩⟩ (chg_setCell w ⟨g,j,none⟩ u) (fun b _ h9=>h9.2) fun b _ h9=>Or.inl h9.1⟩
theorem rowsN_of {w:World} {F:Nat→Prop} {vs:List Value} {ls:List (List Int)} (h:(rowsC 3 1 vs (ls.map fun l=>l.map (Value.int .i64 ·))).ok w F):(rowsN vs (ls.map List.length)).ok w F:=by
 refine ⟨by have:=h.1;simpa using this,fun i v n h1 h2=>?_⟩
 rw [List.getElem?_map] at h2
 cases hl:ls[i]? with
 | none=>rw [hl] at h2;cases h2
 | some l =>
  rw [hl] at h2
  injection h2 with h2
  obtain ⟨a,n',c,hv,hr⟩:=h.2 i v _ h1 (by rw [List.getElem?_map,hl];rfl)
  have:=(row_size hr).1
  simp at this
  have e:n'=n:=by omega
  subst e
  exact ⟨a,c,_,hv,hr⟩
end
end Go.Px
