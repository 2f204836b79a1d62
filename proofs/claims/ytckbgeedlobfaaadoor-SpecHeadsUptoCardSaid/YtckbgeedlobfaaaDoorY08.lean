/-
  Texts of this claim: T02H, T02Lib2.
-/
import Derived.Test.YtckbgeedlobfaaaDoorY04
set_option linter.unusedVariables false
set_option maxRecDepth 100000
/- Shallow programs, written by a program of ours (gen.py) off the translation; each is tied to the code by the kernel. -/
namespace Go.Proofs.YtckbgeedlobfaaaDoor
open Go.Px

end Go.Proofs.YtckbgeedlobfaaaDoor

/- Shallow programs, written by a program of ours (gen.py) off the translation; each is tied to the code by the kernel. -/
namespace Go.Proofs.YtckbgeedlobfaaaDoor
open Go.Px

end Go.Proofs.YtckbgeedlobfaaaDoor
