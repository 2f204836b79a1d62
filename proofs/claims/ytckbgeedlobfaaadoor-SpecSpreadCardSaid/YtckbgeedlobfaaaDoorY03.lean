/-
  Texts of this claim: PxTxt, PxLend, PxOpen.
-/
import Derived.Test.YtckbgeedlobfaaaDoorY02
import Derived.Lib.FrozenHead2
import Derived.Laws.IdiomStrings
import Derived.Laws.OwnMore
import Derived.SliceStrings
/-
  Texts that grow, in pieces.
-/
namespace Go.Px
open Go.RowKit

/-- A text. -/
abbrev Txt:=List UInt8
def tx (s:ByteArray):Txt:=s.data.toList

section
variable {G:Nat→Prop} {W w w':World} {L L':List Ch} {m:Bool}

end
end Go.Px

/-
  Calls that are given a piece and a list that was laid down just ahead.
-/
namespace Go.Px
open Go.RowKit
open Classical in
/-- One piece alone. -/
theorem St.one {F:Nat→Prop} {w:World} {c:Ch} (h:c.ok w F):St F w w [c]:=St.enter ⟨fun i=>if F i∧i<w.heap.size then 1 else 0,fun i hi=>by
  by_cases e:F i∧i<w.heap.size
  ·exact e
  ·dsimp only at hi;rw [if_neg e] at hi;exact absurd rfl hi,fun k d hk=>by
  match k,hk with
  | 0,hk=>injection hk with hk;subst hk;exact c.keep h (Chg.refl noB _) (fun _ _ _=>id) fun i h1 h2=>by simp [h1,h2]
  | k+1,hk=>simp at hk⟩
section
variable {G:Nat→Prop} {W w w1:World} {L:List Ch}
end

section
variable {G:Nat→Prop} {W w:World} {L:List Ch}
end
end Go.Px

/-
  From a reading to the way in which data lie.
-/
namespace Go.Px
open Go.ChangeShapes Go.WideShapes Go.ChangeAt Go.RowKit

/-- A way of telling how much a reading holds. -/
structure BulkOf {H:Type} (ub:DataW H→Nat) (uba:List (DataW H)→Nat):Prop where
 str:∀b,ub (.lit (.string b))=b.length+1
 lit:∀l,1≤ub (.lit l)
 nil:1≤ub .nil
 slice:∀e s,ub (.slice e s)=uba e+uba s+1
 agg:∀p,ub (.agg p)=uba p+1
 all0:uba []=0
 allc:∀d r,uba (d::r)=ub d+uba r
/-- No more than any such way tells. -/
def BulkLe {H:Type} (n:Nat) (d:DataW H):Prop:=∀(ub:DataW H→Nat) (uba:List (DataW H)→Nat),BulkOf ub uba→n≤ub d

/-- What is read as a type lies so. -/
def Opens {α:Type} (P:Program) (t:TypeId) (r:Rep α):Prop :=
 P.cellsOf t=r.size∧P.bytesOf t=r.bytes∧∀{H:Type} (enc:TypeId×Value→H) (W:World) (base:Nat) (sp:Nat→Bool) (held:Bool) (fuel:Nat) (cs:List Value) (x:DataW H×List MemPlace),
  DataW.trod enc P W base sp held fuel t cs=some x→∃a,r.ok W W.heap.size cs a∧((x.1.weights P t).all (·≤reachBytes)=true→r.fit a)∧BulkLe (r.bulk a) x.1

section
variable {P:Program} {t:TypeId}
theorem opens_int (ht:P.underlying t=some (.int .i64)) (hc:P.cellsOf t=1) (hb:P.bytesOf t=8):Opens P t rInt:=by
 refine ⟨hc,hb,fun enc W base sp held fuel cs x h=>?_⟩
 obtain ⟨n,rfl,rfl,hw⟩:=DataW.trod_int ht h
 refine ⟨n,⟨rfl,?_⟩,fun _=>trivial,fun ub uba hb=>by subst_vars;exact hb.lit _⟩
 simp [Lit.wf] at hw
 unfold inI64
 have hm:IntKind.i64.min = -9223372036854775808:=by decide
 rw [hm] at hw
 exact hw
theorem opens_str (ht:P.underlying t=some .string) (hc:P.cellsOf t=1) (hb:P.bytesOf t=16):Opens P t rStr:=by
 refine ⟨hc,hb,fun enc W base sp held fuel cs x h=>?_⟩
 obtain ⟨s,rfl,rfl,hs⟩:=DataW.trod_string ht h
 refine ⟨s,⟨rfl,hs⟩,fun hw=>?_,fun ub uba hb=>by rw [hb.str];simp [rStr]⟩
 have:s.size≤reachBytes:=by simpa [DataW.weights] using hw
 exact this
theorem weights_mem {P:Program} {e:TypeId} {H:Type}:∀{l:List (DataW H)} {d:DataW H},(DataW.weightsAll P e l).all (·≤reachBytes)=true→d∈l→(d.weights P e).all (·≤reachBytes)=true
 | [],_,_,h=>by cases h
 | x::l,d,hw,h=>by
  simp only [DataW.weightsAll,List.all_append,Bool.and_eq_true] at hw
  rcases List.mem_cons.1 h with rfl | h
  ·exact hw.1
  ·exact weights_mem hw.2 h
theorem bulk_sum {α H:Type} {bk:α→Nat} {ub:DataW H→Nat} {uba:List (DataW H)→Nat} (hb:BulkOf ub uba):∀{l:List α} {ds:List (DataW H)},l.length=ds.length→(∀(i:Nat) (y:α) (d:DataW H),l[i]?=some y→ds[i]?=some d→BulkLe (bk y) d)→(l.map bk).sum≤uba ds
 | [],_,_,_=>by simp
 | y::l,[],h,_=>by simp at h
 | y::l,d::ds,h,hd=>by
  rw [hb.allc,List.map_cons,List.sum_cons]
  have h1:=hd 0 y d rfl rfl ub uba hb
  have h2:=bulk_sum hb (l:=l) (ds:=ds) (bk:=bk) (by simpa using h) fun i y d hy hd'=>hd (i+1) y d (by simpa using hy) (by simpa using hd')
  omega
theorem opens_slice {α:Type} {r:Rep α} {e:TypeId} (ht:P.underlying t=some (.slice e)) (hc:P.cellsOf t=1) (hb:P.bytesOf t=24) (hpos:0<r.size) (he:Opens P e r):Opens P t (rSlice r):=by
 refine ⟨hc,hb,fun enc W base sp held fuel cs x h=>?_⟩
 rcases DataW.trod_slice ht h with ⟨rfl,rfl⟩ | ⟨a,len,cap,elems,rest,n,_,rfl,rfl,_,hl,hm,hlen,hel,_,_⟩
 ·exact ⟨[],⟨none,0,rfl,by simp,by simp [maxLen],trivial,fun h=>by simp at h⟩,fun _=>⟨by simp,by simp⟩,fun ub uba hb=>hb.nil⟩
 ·have each:∀i,i<len→∃y,(∀z,elems[i]?=some z→((z.1.weights P e).all (·≤reachBytes)=true→r.fit y)∧BulkLe (r.bulk y) z.1)∧∃ys,r.ok W W.heap.size ys y∧∀j u,ys[j]?=some u→W.cell? (a.add (i*r.size+j))=some u:=by
   intro i hi
   have h1:=hel i hi
   rw [List.getElem?_eq_getElem (by omega),Option.bind_eq_some_iff] at h1
   obtain ⟨cs',hcs,hy⟩:=h1
   obtain ⟨y,hy,hfit,hbk⟩:=he.2.2 enc W base sp held n cs' _ hy
   obtain ⟨_,hlen',hcell⟩:=World.cells?_some hcs
   refine ⟨y,fun z hz=>by rw [List.getElem?_eq_getElem (by omega)] at hz;cases hz;exact ⟨hfit,hbk⟩,cs',hy,fun j u hj=>?_⟩
   have hjl:=(List.getElem?_eq_some_iff.1 hj).1
   have h2:=hcell j (by omega)
   rw [hj,he.1] at h2
   rw [←h2]
   congr 1
   unfold Addr.add
   by_cases h0:i*r.size=0
   ·rw [h0];simp
   ·by_cases hj0:j=0
    ·subst hj0;simp [h0]
    ·          simp [h0,hj0,Nat.add_assoc]
  have mk:∀n,n≤len→∃l:List α,l.length=n∧∀i y,l[i]?=some y→(∀z,elems[i]?=some z→((z.1.weights P e).all (·≤reachBytes)=true→r.fit y)∧BulkLe (r.bulk y) z.1)∧∃ys,r.ok W W.heap.size ys y∧∀j u,ys[j]?=some u→W.cell? (a.add (i*r.size+j))=some u:=by
   intro n
   induction n with
   | zero=>exact fun _=>⟨[],rfl,fun i y h=>by simp at h⟩
   | succ n ih =>
    intro hn
    obtain ⟨l,hll,hl'⟩:=ih (by omega)
    obtain ⟨y,hy⟩:=each n (by omega)
    refine ⟨l++[y],by simp [hll],fun i z hz=>?_⟩
    by_cases hi:i<l.length
    ·rw [List.getElem?_append_left hi] at hz;exact hl' i z hz
    ·rw [List.getElem?_append_right (by omega)] at hz
     have hi0:i-l.length=0:=by
      have:=(List.getElem?_eq_some_iff.1 hz).1
      simp at this;omega
     rw [hi0] at hz
     simp at hz
     subst hz
     have:i=n:=by omega
     subst this
     exact hy
  obtain ⟨l,hll,hl'⟩:=mk len (Nat.le_refl _)
  refine ⟨l,⟨some a,cap,by rw [hll],by omega,hm,trivial,fun hpos'=>?_⟩,fun hw=>?_,fun ub uba hb=>?_⟩
  case refine_3 =>
   rw [hb.slice]
   have hsum:(l.map r.bulk).sum≤uba (elems.map (·.1)):=bulk_sum hb (by simp;omega) fun i y z hy hz=>by
    rw [List.getElem?_map,Option.map_eq_some_iff] at hz
    obtain ⟨z',hz',rfl⟩:=hz
    exact ((hl' i y hy).1 z' hz').2
   show (l.map r.bulk).sum+1≤_
   omega
  case refine_2 =>
   simp only [DataW.weights,ht,List.all_cons,List.all_append,Bool.and_eq_true,decide_eq_true_eq,List.length_map] at hw
   refine ⟨?_,fun x hx=>?_⟩
   ·have h1:=hw.1
    rw [he.2.1] at h1
    refine Nat.le_trans (Nat.mul_le_mul_right _ ?_) h1
    omega
   ·obtain ⟨i,hi⟩:=List.getElem?_of_mem hx
    have hil:=(List.getElem?_eq_some_iff.1 hi).1
    refine ((hl' i x hi).1 elems[i] (List.getElem?_eq_getElem (by omega))).1 ?_
    exact weights_mem hw.2.1 (List.mem_map_of_mem (List.getElem_mem _))
  have h0:=hl' 0 l[0] (List.getElem?_eq_getElem hpos')
  obtain ⟨_,ys,hok,hcell⟩:=h0
  have hylen:=r.len hok
  have hc0:=hcell 0 ys[0] (List.getElem?_eq_getElem (by omega))
  have ha:a=⟨a.block,a.off,none⟩:=by
   simp [Addr.add] at hc0
   unfold World.cell? at hc0
   split at hc0
   ·split at hc0
    ·cases hc0
    ·rename_i hsp
     cases a with
     | mk b o s=>cases s with
      | none=>rfl
      | some s=>simp at hsp
   ·cases hc0
  have hblk:=World.block_lt_of_cell? W _ hc0
  refine ⟨a.block,a.off,by rw [←ha],?_,fun i y hi=>?_⟩
  ·rw [ha] at hblk
   simpa [Addr.add] using hblk
  ·obtain ⟨_,ys,hok,hcell⟩:=hl' i y hi
   refine ⟨ys,hok,fun j u hj=>?_⟩
   have:=hcell j u hj
   rw [ha,Addr.add_lit] at this
   exact this

theorem str_at1 {w:World} {B:Nat} {v:Value} {s:ByteArray} (h:rStr.at1 w B v s):v = .string s∧s.size≤maxLen:=by
 obtain ⟨h1,h2⟩:=h
 injection h1 with h1
 exact ⟨h1,h2⟩
/-- An argument of one cell. -/
theorem open_arg1 {α:Type} {r:Rep α} {H:Type} {enc:TypeId×Value→H} {W:World} {base:Nat} {sp:Nat→Bool} {held:Bool} {v:Value} {d:DataW H} {ps:List MemPlace} (ho:Opens P t r) (hv:v.cells=#[v]) (h:DataW.Trod enc P W base sp held t v d ps) :
  ∃a,r.at1 W W.heap.size v a∧((d.weights P t).all (·≤reachBytes)=true→r.fit a)∧BulkLe (r.bulk a) d:=by
 obtain ⟨fuel,hf⟩:=h
 rw [hv] at hf
 exact ho.2.2 enc W base sp held fuel _ _ hf
end
end Go.Px
