/-
  Rows with items.
-/
import Derived.Test.YtkacbjhiobnbfaaWa
namespace Go.Proofs.Ytkacbjhiobnbfaa
open Go.Px Go.Px.Scan Go.ChangeShapes Go.WideShapes Go.ChangeAt Go.RowKit
def rItem : Rep (Int × Int) := rInt.prod rInt
theorem opens36 : Opens Try.prog 36 rItem := opens_struct Try.underlying36 (by kernel_rfl) (by kernel_rfl) (opensF_cons opens3 (opensF_one opens3))
theorem item_form {w : World} {B : Nat} {v : Value} {a : Int × Int} (h : rItem.atN w B v a) : v = .agg #[.int .i64 a.1, .int .i64 a.2] ∧ inI64 a.1 ∧ inI64 a.2 := by
  obtain ⟨cs, rfl, x1, y1, e1, ⟨h1, i1⟩, ⟨h2, i2⟩⟩ := h
  subst h1 h2 e1
  exact ⟨rfl, i1, i2⟩
end Go.Proofs.Ytkacbjhiobnbfaa

