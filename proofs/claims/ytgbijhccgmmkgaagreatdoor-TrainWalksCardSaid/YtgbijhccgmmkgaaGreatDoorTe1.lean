/- The fused symbol: what the program computes. -/
import Derived.Test.YtgbijhccgmmkgaaGreatDoorTf11m15
import Derived.Test.YtgbijhccgmmkgaaGreatDoorTy11
import Derived.Test.YtgbijhccgmmkgaaGreatDoorTf11m0
import Derived.Test.YtgbijhccgmmkgaaGreatDoorTf11m11
import Derived.Test.YtgbijhccgmmkgaaGreatDoorTf11m8
import Derived.Test.YtgbijhccgmmkgaaGreatDoorProg
import Derived.Test.YtgbijhccgmmkgaaGreatDoorTf11m3
import Derived.Test.YtgbijhccgmmkgaaGreatDoorTf11m4
import Derived.Test.YtgbijhccgmmkgaaGreatDoorTf11m6
import Derived.Test.YtgbijhccgmmkgaaGreatDoorTf11m9
import Derived.Test.YtgbijhccgmmkgaaGreatDoorTa5
import Derived.Test.YtgbijhccgmmkgaaGreatDoorTb1
import Derived.Test.YtgbijhccgmmkgaaGreatDoorTc3
set_option linter.unusedVariables false
noncomputable section
open Classical
namespace Go.Cn

theorem copiedP_val (k : Nat) (p : Int) (L : List Constituent) (h1 : 1 ≤ L.length) (h2 : L.length ≤ 1000) : F59 k p L = some (.s1 p L) := by
  unfold F59 F59.b
  rw [if_neg (by omega), if_pos (by omega)]
  rfl

end Go.Cn
