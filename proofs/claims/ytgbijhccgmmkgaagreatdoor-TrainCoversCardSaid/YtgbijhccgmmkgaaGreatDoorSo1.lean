/- Any symbol, bent or not, that the laws of trains speak of. -/
import Derived.Test.YtgbijhccgmmkgaaGreatDoorTf11m14
import Derived.Test.YtgbijhccgmmkgaaGreatDoorTa5
set_option linter.unusedVariables false
noncomputable section
open Classical
namespace Go.Cn

end Go.Cn
