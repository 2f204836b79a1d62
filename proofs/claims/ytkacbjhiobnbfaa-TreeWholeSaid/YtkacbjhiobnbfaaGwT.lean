/-
  Rows with nodes.
-/
import Derived.Test.YtkacbjhiobnbfaaWa
import Derived.Test.YtkacbjhiobnbfaaTa
import Derived.Test.YtkacbjhiobnbfaaMi
namespace Go.Proofs.Ytkacbjhiobnbfaa
open Go.Px Go.Px.Scan Go.ChangeShapes Go.WideShapes Go.ChangeAt Go.RowKit
theorem opens61 : Opens Try.prog 61 rNd := opens_struct Try.underlying61 (by kernel_rfl) (by kernel_rfl) (opensF_cons opens3 (opensF_cons opens3 (opensF_cons opens3 (opensF_one opens24))))
theorem opens49 : Opens Try.prog 49 (rSlice rNd) := opens_slice Try.underlying49 (by kernel_rfl) (by kernel_rfl) (by decide) opens61
theorem nd_fit {l : List Nd} (h : (rSlice rNd).fit l) : l.length * 48 ≤ maxBytes ∧ ∀ x ∈ l, x.2.2.2.length * 8 ≤ maxBytes :=
  ⟨reach_max h.1, fun x hx => reach_max (h.2 x hx).2.2.2.1⟩
theorem ints_fit {l : List Int} (h : (rSlice rInt).fit l) : l.length * 8 ≤ reachN := h.1
end Go.Proofs.Ytkacbjhiobnbfaa

