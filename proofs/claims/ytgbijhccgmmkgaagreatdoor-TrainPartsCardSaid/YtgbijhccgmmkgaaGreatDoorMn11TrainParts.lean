/- The law quadformlaw27.TrainParts holds, as the tied card says it: whatever the input, it answers true, and the input reads afterwards as it did. The compartments and the trains of the program are those of the document. No condition is added. -/
import Derived.Test.YtgbijhccgmmkgaaGreatDoorTr11TrainParts
import Derived.Test.YtgbijhccgmmkgaaGreatDoorTp1
set_option linter.unusedVariables false
noncomputable section
namespace Go.Proofs.YtgbijhccgmmkgaaGreatDoor
open Go Go.Cn

theorem trainParts_row : Rows.trainPartsRow.holds Tryz.pinned (OpenSpec.ofChange Rows.trainPartsSpec) :=
  trainParts.over (fun xs h => by
    obtain ⟨p0Pr, p0L, p1Pr, p1P, p2, p3, p4, p5, rfl, o1, o2, o3, o4, o5, o6, o7, o8⟩ := F1 8 xs h
    exact F2 2000 p0Pr p0L p1Pr p1P p2 p3 p4 p5 true (lawParts p0Pr p0L p1Pr p1P p2 p3 p4 p5 o3 o4 o5))

theorem trainParts_holds : Rows.TrainPartsCardSaid :=
  Claim7.holds_tied_plain_at .later [] [.data, .data, .data] true (true, "0bc38e0f9fd25477238738c0dea94d03132b89ab6c148d19e4f29ff5385e3ecd") false
    trainParts_row (fun _ h => by cases h) (by kernel_rfl) (fun _ h => by cases h) trainParts_row_tie rfl ⟨rfl, rfl⟩ (by kernel_rfl) rfl
    (fun f fn hf hfn => by
      obtain rfl : f = 9 := Option.some.inj ((show Tryz.prog.funcNamed "quadform/quadformlaw27.TrainParts" = some 9 by kernel_rfl).symm.trans hf) |>.symm
      obtain rfl : fn = Tryz.f9 := (Option.some.inj (Tryz.func9.symm.trans hfn)).symm
      refine ⟨by kernel_rfl, fun j t ht => ?_⟩
      rw [Tryz.params9] at ht
      match j, ht with
      | 0, ht => cases ht; exact (show Tryz.prog.wantsStandIn 32 = false by kernel_rfl)
      | 1, ht => cases ht; exact (show Tryz.prog.wantsStandIn 35 = false by kernel_rfl)
      | 2, ht => cases ht; exact (show Tryz.prog.wantsStandIn 5 = false by kernel_rfl)
      | 3, ht => cases ht; exact (show Tryz.prog.wantsStandIn 5 = false by kernel_rfl)
      | 4, ht => cases ht; exact (show Tryz.prog.wantsStandIn 44 = false by kernel_rfl)
      | 5, ht => cases ht; exact (show Tryz.prog.wantsStandIn 4 = false by kernel_rfl)
      | j + 6, ht => simp at ht)
    (by kernel_rfl)

end Go.Proofs.YtgbijhccgmmkgaaGreatDoor
