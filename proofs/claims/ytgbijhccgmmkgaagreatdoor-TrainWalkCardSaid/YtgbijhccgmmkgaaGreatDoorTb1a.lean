/- Legal constituents: what the program computes. -/
import Derived.Test.YtgbijhccgmmkgaaGreatDoorTf11m0
import Derived.Test.YtgbijhccgmmkgaaGreatDoorTy11
import Derived.Test.YtgbijhccgmmkgaaGreatDoorProg
import Derived.Test.YtgbijhccgmmkgaaGreatDoorTa3a
set_option linter.unusedVariables false
noncomputable section
open Classical
namespace Go.Cn

def scS (c : Constituent) : Prop := 0 ≤ c.Exp ∧ c.Exp ≤ 60 ∧ 1 ≤ c.Dim ∧ c.Dim ≤ 8 ∧ (c.Sign = 1 ∨ c.Sign = -1)
theorem scaled_val (k : Nat) (c : Constituent) : F73 k c.Exp c.Dim c.Sign c.Odd c.Oddity = some (decide (scS c)) := by
  unfold F73 F73.b
  have hP : scS c ↔ (0 ≤ c.Exp ∧ c.Exp ≤ 60 ∧ 1 ≤ c.Dim ∧ c.Dim ≤ 8 ∧ (c.Sign = 1 ∨ c.Sign = -1)) := Iff.rfl
  by_cases h1 : c.Exp ≥ 0
  case neg => rw [if_neg h1]; exact leafF hP (by omega)
  rw [if_pos h1]
  by_cases h2 : c.Exp ≤ 60
  case neg => rw [if_neg h2]; exact leafF hP (by omega)
  rw [if_pos h2]
  by_cases h3 : c.Dim ≥ 1
  case neg => rw [if_neg h3]; exact leafF hP (by omega)
  rw [if_pos h3]
  by_cases h4 : c.Dim ≤ 8
  case neg => rw [if_neg h4]; exact leafF hP (by omega)
  rw [if_pos h4]
  by_cases h5 : c.Sign = 1
  · rw [if_pos h5]; exact leafT hP (by omega)
  · rw [if_neg h5]; exact leafE hP (by omega)

end Go.Cn
