/-
  Rows with calls.
-/
import Derived.Test.YtmhebgebfjnfjaaWa
import Derived.Test.YtmhebgebfjnfjaaMj
namespace Go.Proofs.Ytmhebgebfjnfjaa
open Go.Px Go.Px.Scan Go.ChangeShapes Go.WideShapes Go.ChangeAt Go.RowKit
theorem opens71 : Opens Try.prog 71 rOp := opens_struct Try.underlying71 (by kernel_rfl) (by kernel_rfl) (opensF_cons opens3 (opensF_cons opens3 (opensF_cons opens30 (opensF_one opens9))))
theorem opens61 : Opens Try.prog 61 (rSlice rOp) := opens_slice Try.underlying61 (by kernel_rfl) (by kernel_rfl) (by decide) opens71
end Go.Proofs.Ytmhebgebfjnfjaa

