/-
  Texts of this claim: PxTxt, PxLend, PxOpen.
-/
import Derived.Test.YtckbgeedlobfaaaDoorY02
import Derived.Lib.FrozenHead2
import Derived.Laws.IdiomStrings
import Derived.Laws.OwnMore
import Derived.SliceStrings
/-
  Texts that grow, in pieces.
-/
namespace Go.Px
open Go.RowKit

/-- A text. -/
abbrev Txt:=List UInt8
def tx (s:ByteArray):Txt:=s.data.toList

section
variable {G:Nat→Prop} {W w w':World} {L L':List Ch} {m:Bool}

end
end Go.Px

/-
  Calls that are given a piece and a list that was laid down just ahead.
-/
namespace Go.Px
open Go.RowKit
open Classical in
/-- One piece alone. -/
theorem St.one {F:Nat→Prop} {w:World} {c:Ch} (h:c.ok w F):St F w w [c]:=St.enter ⟨fun i=>if F i∧i<w.heap.size then 1 else 0,fun i hi=>by
  by_cases e:F i∧i<w.heap.size
  ·exact e
  ·dsimp only at hi;rw [if_neg e] at hi;exact absurd rfl hi,fun k d hk=>by
  match k,hk with
  | 0,hk=>injection hk with hk;subst hk;exact c.keep h (Chg.refl noB _) (fun _ _ _=>id) fun i h1 h2=>by simp [h1,h2]
  | k+1,hk=>simp at hk⟩
section
variable {G:Nat→Prop} {W w w1:World} {L:List Ch}
end

section
variable {G:Nat→Prop} {W w:World} {L:List Ch}
end
end Go.Px

/-
  From a reading to the way in which data lie.
-/
namespace Go.Px
open Go.ChangeShapes Go.WideShapes Go.ChangeAt Go.RowKit

/-- A way of telling how much a reading holds. -/
structure BulkOf {H:Type} (ub:DataW H→Nat) (uba:List (DataW H)→Nat):Prop where
 str:∀b,ub (.lit (.string b))=b.length+1
 lit:∀l,1≤ub (.lit l)
 nil:1≤ub .nil
 slice:∀e s,ub (.slice e s)=uba e+uba s+1
 agg:∀p,ub (.agg p)=uba p+1
 all0:uba []=0
 allc:∀d r,uba (d::r)=ub d+uba r
/-- No more than any such way tells. -/
def BulkLe {H:Type} (n:Nat) (d:DataW H):Prop:=∀(ub:DataW H→Nat) (uba:List (DataW H)→Nat),BulkOf ub uba→n≤ub d

/-- What is read as a type lies so. -/
def Opens {α:Type} (P:Program) (t:TypeId) (r:Rep α):Prop :=
 P.cellsOf t=r.size∧P.bytesOf t=r.bytes∧∀{H:Type} (enc:TypeId×Value→H) (W:World) (base:Nat) (sp:Nat→Bool) (held:Bool) (fuel:Nat) (cs:List Value) (x:DataW H×List MemPlace),
  DataW.trod enc P W base sp held fuel t cs=some x→∃a,r.ok W W.heap.size cs a∧((x.1.weights P t).all (·≤reachBytes)=true→r.fit a)∧BulkLe (r.bulk a) x.1

section
variable {P:Program} {t:TypeId}
theorem opens_str (ht:P.underlying t=some .string) (hc:P.cellsOf t=1) (hb:P.bytesOf t=16):Opens P t rStr:=by
 refine ⟨hc,hb,fun enc W base sp held fuel cs x h=>?_⟩
 obtain ⟨s,rfl,rfl,hs⟩:=DataW.trod_string ht h
 refine ⟨s,⟨rfl,hs⟩,fun hw=>?_,fun ub uba hb=>by rw [hb.str];simp [rStr]⟩
 have:s.size≤reachBytes:=by simpa [DataW.weights] using hw
 exact this

theorem str_at1 {w:World} {B:Nat} {v:Value} {s:ByteArray} (h:rStr.at1 w B v s):v = .string s∧s.size≤maxLen:=by
 obtain ⟨h1,h2⟩:=h
 injection h1 with h1
 exact ⟨h1,h2⟩
/-- An argument of one cell. -/
theorem open_arg1 {α:Type} {r:Rep α} {H:Type} {enc:TypeId×Value→H} {W:World} {base:Nat} {sp:Nat→Bool} {held:Bool} {v:Value} {d:DataW H} {ps:List MemPlace} (ho:Opens P t r) (hv:v.cells=#[v]) (h:DataW.Trod enc P W base sp held t v d ps) :
  ∃a,r.at1 W W.heap.size v a∧((d.weights P t).all (·≤reachBytes)=true→r.fit a)∧BulkLe (r.bulk a) d:=by
 obtain ⟨fuel,hf⟩:=h
 rw [hv] at hf
 exact ho.2.2 enc W base sp held fuel _ _ hf
end
end Go.Px
