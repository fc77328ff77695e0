/- Legal constituents and raw 2-adic symbols: what the document asks. -/
import Derived.Test.YtgbijhccgmmkgabGreatDoorTf13m6
import Derived.Test.YtgbijhccgmmkgabGreatDoorOr1
import Derived.Test.YtgbijhccgmmkgabGreatDoorTa2
import Derived.Test.YtgbijhccgmmkgabGreatDoorTa3a
set_option linter.unusedVariables false
noncomputable section
open Classical
namespace Go.Cn

/-- a raw list -/
def raw2 (L : List ua0) : Prop := ordR L ∧ ∀ c ∈ L, legalS c

end Go.Cn
