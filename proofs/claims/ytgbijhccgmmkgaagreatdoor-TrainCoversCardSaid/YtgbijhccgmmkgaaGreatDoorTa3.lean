/- Legal constituents and raw 2-adic symbols: what the document asks. -/
import Derived.Test.YtgbijhccgmmkgaaGreatDoorTf11m5
import Derived.Test.YtgbijhccgmmkgaaGreatDoorOr1
import Derived.Test.YtgbijhccgmmkgaaGreatDoorTa2
import Derived.Test.YtgbijhccgmmkgaaGreatDoorTa3a
set_option linter.unusedVariables false
noncomputable section
open Classical
namespace Go.Cn

/-- a raw list -/
def raw2 (L : List Constituent) : Prop := ordR L ∧ ∀ c ∈ L, legalS c

end Go.Cn
