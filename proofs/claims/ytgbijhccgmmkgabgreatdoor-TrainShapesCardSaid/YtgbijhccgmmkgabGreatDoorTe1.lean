/- The fused symbol: what the program computes. -/
import Derived.Test.YtgbijhccgmmkgabGreatDoorTf13m0
import Derived.Test.YtgbijhccgmmkgabGreatDoorTy13
import Derived.Test.YtgbijhccgmmkgabGreatDoorTf13m1
import Derived.Test.YtgbijhccgmmkgabGreatDoorProg
import Derived.Test.YtgbijhccgmmkgabGreatDoorTa5
import Derived.Test.YtgbijhccgmmkgabGreatDoorTb1
import Derived.Test.YtgbijhccgmmkgabGreatDoorTc3
set_option linter.unusedVariables false
noncomputable section
open Classical
namespace Go.Cn

theorem copiedP_val (k : Nat) (p : Int) (L : List ua0) (h1 : 1 ≤ L.length) (h2 : L.length ≤ 1000) : F87 k p L = some (.s1 p L) := by
  unfold F87 F87.b
  rw [if_neg (by omega), if_pos (by omega)]
  rfl

end Go.Cn
