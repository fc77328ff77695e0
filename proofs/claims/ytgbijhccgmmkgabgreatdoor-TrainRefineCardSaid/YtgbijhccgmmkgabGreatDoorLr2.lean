/- The law of least raw symbols. -/
import Derived.Test.YtgbijhccgmmkgabGreatDoorTf13m0
import Derived.Test.YtgbijhccgmmkgabGreatDoorTf13m6
import Derived.Test.YtgbijhccgmmkgabGreatDoorTf13m8
import Derived.Test.YtgbijhccgmmkgabGreatDoorLr1
import Derived.Test.YtgbijhccgmmkgabGreatDoorSo1
import Derived.Test.YtgbijhccgmmkgabGreatDoorSn1
set_option linter.unusedVariables false
noncomputable section
open Classical
namespace Go.Cn

/-- The plain law. -/
theorem lawRefine (p0Pr : Int) (p0L : List Constituent) (p1Pr : Int) (p1P : List A5u8) (p2 p3 p4 : Int) (p5 : Bool) (h1 : okI .u8 p1Pr) (h1' : okL ok_A5u8 p1P) (h2 : okI .u8 p2) :
    F0 2000 p0Pr p0L p1Pr p1P p2 p3 p4 p5 = some true := by
  unfold F0 F0.b F7 F7.b F9 F9.b
  rw [Option.bind_some]
  by_cases l1 : (p0L.length : Int) > 20
  · rw [if_pos (by simpa using l1)]; rfl
  rw [if_neg (by simpa using l1), Option.bind_some]
  by_cases l2 : (p1P.length : Int) > 20
  · rw [if_pos (by simpa using l2)]; rfl
  rw [if_neg (by simpa using l2)]
  obtain ⟨q, o, e, ho⟩ := some_some 2000 (by decide) p0Pr p0L p1Pr p1P p2 p3 p4 p5 (by omega) h1 (by omega) h1'.2 h2
  rw [e, Option.bind_some]
  dsimp only
  have hl := refV_len q o
  rw [refP_val 2000 (by decide) q o (by omega), Option.bind_some, refR_val 2000 (by decide) q o (by omega), Option.bind_some, if_pos rfl, same_sym 2000 _ _ (by omega) (by omega), Option.bind_some, if_pos rfl]
  rfl

end Go.Cn
