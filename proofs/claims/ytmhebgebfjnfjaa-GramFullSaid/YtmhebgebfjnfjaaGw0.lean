/-
  The rows of this seat in general.
-/
import Derived.Test.YtmhebgebfjnfjaaGm6
import Derived.Test.YtmhebgebfjnfjaaPxOpen
import Derived.Test.YtmhebgebfjnfjaaPxRow
import Derived.Test.YtmhebgebfjnfjaaRows
import Derived.WalkKit
import Derived.ProofKit
import Derived.OpenShut
import Derived.Deep.DeepHandedRow
import Derived.Deep.DeepWitnessRowRef
namespace Go.Proofs.Ytmhebgebfjnfjaa
open Go.Px Go.Px.Scan Go.ChangeShapes Go.WideShapes Go.ChangeAt Go.RowKit

theorem own : ownKnob Try.prog.godebug = none := by kernel_rfl
theorem cells9 : Try.prog.cellsOf 9 = 1 := by kernel_rfl
theorem opens9 : Opens Try.prog 9 rStr := opens_str Try.underlying9 cells9 (by kernel_rfl)
theorem opens3 : Opens Try.prog 3 rInt := opens_int Try.underlying3 (by kernel_rfl) (by kernel_rfl)
theorem opens30 : Opens Try.prog 30 (rSlice rInt) := opens_slice Try.underlying30 (by kernel_rfl) (by kernel_rfl) (by decide) opens3
theorem laid_none (P : Program) (w : World) : laidMetH P [] w := ⟨[], rfl, List.nodup_nil, fun _ _ h => by cases h⟩
end Go.Proofs.Ytmhebgebfjnfjaa
