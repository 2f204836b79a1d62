/-
  Texts of this claim: Rk1, Rk2, Rk3, Rk4, Rf1, Rf2, Rf3, Rk5.
-/
import Derived.Test.YtckbgeedlobfaaaDoorY21
import Derived.Test.YtckbgeedlobfaaaDoorY13
import Derived.Test.YtckbgeedlobfaaaDoorY16
import Derived.Test.YtckbgeedlobfaaaDoorY02
set_option maxHeartbeats 1000000
set_option linter.unusedSimpArgs false
set_option linter.unusedVariables false
set_option maxRecDepth 100000
/-
  The document's text: its pieces; term, has.
-/
namespace Go.Px.Spec
open Go.Px Go.Px.Scan
/-- What the document's text holds. -/
structure Rx where
 ph:Nat
 sd:Nat
 ts:List (ByteArray×Int)
 lv:List Int
 rows:List RowS
 rl:ByteArray
 ls:List ByteArray
 st:ByteArray
def rxOf (m:Mc):Rx:=⟨m.ph,sideL m.heads,tmOf m.heads,lvOf m.heads,m.rows,m.rule,dd m.lefts,m.start⟩
/-- The words of the last row. -/
def lw (rows:List RowS):List Wd:=(rows.getLast?.map (·.words)).getD []
/-- A terminal's place; -1: it did not come. -/
def posI (ts:List (ByteArray×Int)) (t:ByteArray):Int:=if posN (ts.map (·.1)) t<ts.length then posN (ts.map (·.1)) t else -1
end Go.Px.Spec
namespace Go.Proofs.YtckbgeedlobfaaaDoor
open Go.Px Go.Px.Scan Go.Px.Spec Go.RowKit
attribute [-go_sem] Builtin.append_

structure TD where
 At:Option Addr
 ct:Nat
 Al:Option Addr
 cl:Nat
 Ar:Option Addr
 cr:Nat
 us:List Value
 Ax:Option Addr
 cx:Nat
 Af:Option Addr
 cf:Nat
def encRf (r:RowS×Value):List Value:=[.string r.1.left,r.2,.int .i64 r.1.said,.string r.1.by_]
def txBox (x:Rx) (D:TD):List Value:=[.int .i64 x.ph,.int .i64 x.sd,.slice D.At x.ts.length D.ct,.slice D.Al x.lv.length D.cl,.slice D.Ar x.rows.length D.cr,.string x.rl,.slice D.Af x.ls.length D.cf,.string x.st]
/-- The pieces of the document's text. -/
def txL (tb:Nat) (x:Rx) (D:TD):List Ch :=
 [boxC tb 69 (txBox x D),rowC 39 2 D.At x.ts.length D.ct (x.ts.flatMap termE),rowC 3 1 D.Al x.lv.length D.cl (x.lv.map (Value.int .i64 ·)),
   rowC 124 4 D.Ar x.rows.length D.cr ((x.rows.zip (D.us++[.slice D.Ax (lw x.rows).length D.cx])).flatMap encRf),
   rowsC 46 3 D.us (x.rows.dropLast.map fun r=>r.words.flatMap encW),rowC 46 3 D.Ax (lw x.rows).length D.cx ((lw x.rows).flatMap encW),
   rowC 9 1 D.Af x.ls.length D.cf (x.ls.map Value.string)]

section
variable {G:Nat→Prop} {W w:World} {L:List Ch} {tb:Nat} {x:Rx} {D:TD}

end
end Go.Proofs.YtckbgeedlobfaaaDoor

/-
  The document's text: header.
-/
namespace Go.Px.Spec
open Go.Px Go.Px.Scan
/-- Bounds. -/
structure XB (x:Rx):Prop where
 ts:x.ts.length≤100000
 lv:x.lv.length≤100000
 rows:x.rows.length≤100000
 lw:(lw x.rows).length≤100000
 ls:x.ls.length≤100000
end Go.Px.Spec
namespace Go.Proofs.YtckbgeedlobfaaaDoor
open Go.Px Go.Px.Scan Go.Px.Spec Go.RowKit
attribute [-go_sem] Builtin.append_ ref04_Text_header.b2 ref04_Text_header.b3 ref04_Text_header.b1_1 ref04_Text_header.b1_2 ref04_Text_header.b1_3 ref04_Text_header.b1_4 ref04_Text_header.b1_5 ref04_Text_header.b1_6 ref04_Text_header.b1_7 ref04_Text_header.b1_8

/-- How a step of the document's ends: it can stand there, or it can't. -/
def XEnd (F:Nat→Prop) (w:World) (tb:Nat) (o:Option Rx) (v:Value) (w':World):Prop :=
 match o with
 | some x'=>v = .bool true∧∃D',St F w w' (txL tb x' D')
 | none=>v = .bool false∧∃x' D',St F w w' (txL tb x' D')

section
variable {F:Nat→Prop} {w w1:World} {R:EP} {tb:Nat} {x:Rx} {D:TD}

end
end Go.Proofs.YtckbgeedlobfaaaDoor

/-
  The document's text: listed.
-/
namespace Go.Px.Spec
open Go.Px Go.Px.Scan
end Go.Px.Spec
namespace Go.Proofs.YtckbgeedlobfaaaDoor
open Go.Px Go.Px.Scan Go.Px.Spec Go.RowKit
attribute [-go_sem] Builtin.append_ ref04_Text_listed.b3 ref04_Text_listed.b3_1 ref04_Text_listed.b4 ref04_Text_listed.b4_1 ref04_Text_listed.b5 ref04_Text_listed.b6 ref04_Text_listed.b6_1 ref04_Text_listed.b6_2 ref04_Text_listed.b6_3 ref04_Text_listed.b7

section
variable {F:Nat→Prop} {w w1:World} {R:EP} {tb:Nat} {x:Rx} {D:TD}

end
end Go.Proofs.YtckbgeedlobfaaaDoor

/-
  The document's text: begin, another.
-/
namespace Go.Px.Spec
open Go.Px Go.Px.Scan
end Go.Px.Spec
namespace Go.Proofs.YtckbgeedlobfaaaDoor
open Go.Px Go.Px.Scan Go.Px.Spec Go.RowKit
attribute [-go_sem] Builtin.append_ ref04_Text_begin.b2 ref04_Text_begin.b1_1 ref04_Text_begin.b1_2

theorem bRf (t:ByteArray) (w:World):(Instr.build 124 #[(0,.string t)]).run Tryd.prog w = .ok (.agg #[.string t,.slice none 0 0,.int .i64 0,.string ⟨#[]⟩]) w:=by simp [go_sem]
attribute [go_sem ↓] bRf

section
variable {F:Nat→Prop} {w w1:World} {R:EP} {tb:Nat} {x:Rx} {D:TD}

end
end Go.Proofs.YtckbgeedlobfaaaDoor

/-
  The document's answer: skipping, orders.
-/
namespace Go.Proofs.YtckbgeedlobfaaaDoor
open Go.Px Go.Px.Scan Go.RowKit

end Go.Proofs.YtckbgeedlobfaaaDoor

/-
  The document's answer: one word.
-/
namespace Go.Proofs.YtckbgeedlobfaaaDoor
open Go.Px Go.Px.Scan Go.RowKit

end Go.Proofs.YtckbgeedlobfaaaDoor

/-
  The document's answer: all words.
-/
namespace Go.Proofs.YtckbgeedlobfaaaDoor
open Go.Px Go.Px.Scan Go.RowKit

end Go.Proofs.YtckbgeedlobfaaaDoor

/-
  The document's text: within.
-/
namespace Go.Px.Spec
open Go.Px Go.Px.Scan
end Go.Px.Spec
namespace Go.Proofs.YtckbgeedlobfaaaDoor
open Go.Px Go.Px.Scan Go.Px.Spec Go.RowKit
attribute [-go_sem] Builtin.append_ ref04_Text_within.b3 ref04_Text_within.b7 ref04_Text_within.b10 ref04_Text_within.b13 ref04_Text_within.b16 ref04_Text_within.b18 ref04_Text_within.b18_1 ref04_Text_within.b17 ref04_Text_within.b17_1 ref04_Text_within.b17_2 ref04_Text_within.b15 ref04_Text_within.b14 ref04_Text_within.b14_1 ref04_Text_within.b14_2 ref04_Text_within.b12 ref04_Text_within.b11 ref04_Text_within.b11_1 ref04_Text_within.b11_2 ref04_Text_within.b9 ref04_Text_within.b8 ref04_Text_within.b8_1 ref04_Text_within.b6 ref04_Text_within.b5 ref04_Text_within.b5_1

section
variable {F:Nat→Prop} {w w1:World} {R:EP} {tb g:Nat} {x:Rx} {D:TD} {done:List RowS} {r:RowS}

end
end Go.Proofs.YtckbgeedlobfaaaDoor
