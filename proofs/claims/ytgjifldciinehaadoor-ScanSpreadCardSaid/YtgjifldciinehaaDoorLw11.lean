/-
  ScanSpread's argument, read.
-/
import Derived.Test.YtgjifldciinehaaDoorLw9
namespace Go.Proofs.YtgjifldciinehaaDoor
open Go.Px Go.Px.Scan Go.RowKit

theorem opens48 : Opens Tryd.prog 48 rPiece :=
  opens_struct Tryd.underlying48 (by kernel_rfl) (by kernel_rfl) (opensF_cons opens3 (opensF_cons opens3 (opensF_cons opens3 (opensF_one opens9))))
theorem opens44 : Opens Tryd.prog 44 (rSlice rPiece) := opens_slice Tryd.underlying44 (by kernel_rfl) (by kernel_rfl) (by decide) opens48
end Go.Proofs.YtgjifldciinehaaDoor
