/- The laws of legal constituents. -/
import Derived.Test.YtgbijhccgmmkgaaGreatDoorTf11m1
import Derived.Test.YtgbijhccgmmkgaaGreatDoorTf11m2
import Derived.Test.YtgbijhccgmmkgaaGreatDoorTf11m20
import Derived.Test.YtgbijhccgmmkgaaGreatDoorTb1a
set_option linter.unusedVariables false
noncomputable section
open Classical
namespace Go.Cn

/-- The plain law. -/
theorem lawLegal (e d s : Int) (o : Bool) (y x0 x1 x2 x3 : Int) (p2 p3 : Bool) : Fquadformlaw27_TrainLegal 20 e d s o y x0 x1 x2 x3 p2 p3 = some true := by
  unfold Fquadformlaw27_TrainLegal Fquadformlaw27_TrainLegal.b
  have hP := fun c => legalP_val 20 c
  have hR := fun c => legalR_val 20 c
  have both : ∀ (E D S : Int) (O : Bool) (Y : Int), Ftrain_Legal 20 E D S O Y = Fquadformref26_Legal 20 E D S O Y ∧ ∃ b, Ftrain_Legal 20 E D S O Y = some b := fun E D S O Y => by
    have h1 := hP ⟨E, D, S, O, Y⟩
    have h2 := hR ⟨E, D, S, O, Y⟩
    dsimp only at h1 h2
    exact ⟨by rw [h1, h2], _, h1⟩
  cases p3 with
  | true =>
    rw [if_pos rfl]
    obtain ⟨h1, b, h2⟩ := both (Int.tmod (IntKind.wrap .i64 x0) 62) (Int.tmod (IntKind.wrap .i64 x1) 10) (IntKind.wrap .i64 (1 - IntKind.wrap .i64 (2 * IntKind.wrap .i64 (Int.tmod x2 2)))) p2 (Int.tmod (IntKind.wrap .i64 x3) 9)
    rw [← h1, h2, Option.bind_some, Option.bind_some, if_pos rfl]
    rfl
  | false =>
    rw [if_neg (by decide)]
    obtain ⟨h1, b, h2⟩ := both e d s o y
    rw [← h1, h2, Option.bind_some, Option.bind_some, if_pos rfl]
    rfl

end Go.Cn
