/- Symbols that are made: odd ones. -/
import Derived.Test.YtgbijhccgmmkgaaGreatDoorTf11m14
import Derived.Test.YtgbijhccgmmkgaaGreatDoorTa4
set_option linter.unusedVariables false
noncomputable section
open Classical
namespace Go.Cn

end Go.Cn
