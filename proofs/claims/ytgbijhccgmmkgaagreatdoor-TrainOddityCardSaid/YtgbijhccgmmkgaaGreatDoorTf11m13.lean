import Derived.Test.YtgbijhccgmmkgaaGreatDoorTy11
import Derived.Test.YtgbijhccgmmkgaaGreatDoorTf11m6
import Derived.Test.YtgbijhccgmmkgaaGreatDoorTf11m9
import Derived.Test.YtgbijhccgmmkgaaGreatDoorProg
set_option linter.unusedVariables false
set_option maxRecDepth 100000
set_option maxHeartbeats 0
noncomputable section
namespace Go.Cn
open Go.Proofs
/-! ### quadform/train.compartment -/
/-! ### quadform/train.bad -/
/-! ### quadform/train.linked -/
end Go.Cn
