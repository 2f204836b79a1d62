/-
  Rows with steps on an arena.
-/
import Derived.Test.YtkacbjhiobnbfaaGwT
namespace Go.Proofs.Ytkacbjhiobnbfaa
open Go.Px Go.Px.Scan Go.ChangeShapes Go.WideShapes Go.ChangeAt Go.RowKit
theorem opens72 : Opens Try.prog 72 rNd := opens_struct Try.underlying72 (by kernel_rfl) (by kernel_rfl) (opensF_cons opens3 (opensF_cons opens3 (opensF_cons opens3 (opensF_one opens24))))
theorem opens64 : Opens Try.prog 64 (rSlice rNd) := opens_slice Try.underlying64 (by kernel_rfl) (by kernel_rfl) (by decide) opens72
theorem op_fit {l : List Nd} (h : (rSlice rNd).fit l) : l.length * 48 ≤ maxBytes ∧ ∀ x ∈ l, x.2.2.2.length * 8 ≤ reachN :=
  ⟨reach_max h.1, fun x hx => (h.2 x hx).2.2.2.1⟩
end Go.Proofs.Ytkacbjhiobnbfaa

