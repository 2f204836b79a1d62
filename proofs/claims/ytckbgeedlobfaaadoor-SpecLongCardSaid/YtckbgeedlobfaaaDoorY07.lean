/-
  Texts of this claim: T03R, T03All.
-/
import Derived.Test.YtckbgeedlobfaaaDoorY04
import Derived.Test.YtckbgeedlobfaaaDoorY06
set_option linter.unusedVariables false
set_option maxRecDepth 100000
/- Shallow programs, written by a program of ours (gen.py) off the translation; each is tied to the code by the kernel. -/
namespace Go.Proofs.YtckbgeedlobfaaaDoor
open Go.Px

end Go.Proofs.YtckbgeedlobfaaaDoor
