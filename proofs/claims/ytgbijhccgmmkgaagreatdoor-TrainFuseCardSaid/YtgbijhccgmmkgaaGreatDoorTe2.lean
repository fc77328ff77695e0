/- The law of the fused symbol. -/
import Derived.Test.YtgbijhccgmmkgaaGreatDoorTf11m23
import Derived.Test.YtgbijhccgmmkgaaGreatDoorTf11m3
import Derived.Test.YtgbijhccgmmkgaaGreatDoorTf11m7
import Derived.Test.YtgbijhccgmmkgaaGreatDoorTe1
import Derived.Test.YtgbijhccgmmkgaaGreatDoorSo1
import Derived.Test.YtgbijhccgmmkgaaGreatDoorSn1
set_option linter.unusedVariables false
noncomputable section
open Classical
namespace Go.Cn

/-- The plain law. -/
theorem lawFuse (p0_Prime : Int) (p0_List : List Constituent) (p1_Prime : Int) (p1_Parts : List A5u8) (p2 p3 p4 : Int) (p5 : Bool) (h1 : okI .u8 p1_Prime) (h1' : okL ok_A5u8 p1_Parts) (h2 : okI .u8 p2) :
    Fquadformlaw27_TrainFuse 2000 p0_Prime p0_List p1_Prime p1_Parts p2 p3 p4 p5 = some true := by
  unfold Fquadformlaw27_TrainFuse Fquadformlaw27_TrainFuse.b Fquadformlaw27_long Fquadformlaw27_long.b Fquadformlaw27_many Fquadformlaw27_many.b
  rw [Option.bind_some]
  by_cases l1 : (p0_List.length : Int) > 20
  · rw [if_pos (by simpa using l1)]; rfl
  rw [if_neg (by simpa using l1), Option.bind_some]
  by_cases l2 : (p1_Parts.length : Int) > 20
  · rw [if_pos (by simpa using l2)]; rfl
  rw [if_neg (by simpa using l2)]
  obtain ⟨q, o, e, ho⟩ := some_some 2000 (by decide) p0_Prime p0_List p1_Prime p1_Parts p2 p3 p4 p5 (by omega) h1 (by omega) h1'.2 h2
  rw [e, Option.bind_some]
  dsimp only
  rw [fuseP_val 2000 (by decide) q o (by omega), Option.bind_some, fuse_val 2000 (by decide) q o (by omega), Option.bind_some, if_pos rfl]
  have hb : ((if q = 2 ∧ raw2 o then (q, fuS o, true) else ((0 : Int), ([] : List Constituent), false)).2.1).length ≤ 20 := by
    split
    · show (fuS o).length ≤ 20; rw [fuS_len]; exact ho
    · simp
  rw [same_sym 2000 _ _ (by omega) (by omega), Option.bind_some, if_pos rfl]
  rfl

end Go.Cn
