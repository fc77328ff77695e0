/- The law quadformlaw27.TrainShapes holds, as the tied card says it: whatever the input, it answers true, and the input reads afterwards as it did. A sign -1 that can walk on is one that lies in a train, behind its first constituent. No condition is added. -/
import Derived.Test.YtgbijhccgmmkgabGreatDoorTr13TrainShapes
import Derived.Test.YtgbijhccgmmkgabGreatDoorLs1
set_option linter.unusedVariables false
noncomputable section
namespace Go.Proofs.YtgbijhccgmmkgabGreatDoor
open Go Go.Cn

theorem trainShapes_row : Rows.trainShapesRow.holds Tryz.pinned (OpenSpec.ofChange Rows.trainShapesSpec) :=
  trainShapes.over (fun xs h => by
    obtain ⟨p0Pr, p0L, p1Pr, p1P, p2, p3, p4, p5, rfl, o1, o2, o3, o4, o5, o6, o7, o8⟩ := F1 8 xs h
    exact F2 2000 p0Pr p0L p1Pr p1P p2 p3 p4 p5 true (lawShapes p0Pr p0L p1Pr p1P p2 p3 p4 p5 o3 o4 o5))

theorem trainShapes_holds : Rows.TrainShapesCardSaid :=
  Claim7.holds_tied_plain_at .later [] [.data, .data, .data] true (true, "1bcd07cc23892cbbf0b4b8ad1ce4a654c4a5b30b4056c4e7797680d85bba9356") false
    trainShapes_row (fun _ h => by cases h) (by kernel_rfl) (fun _ h => by cases h) trainShapes_row_tie rfl ⟨rfl, rfl⟩ (by kernel_rfl) rfl
    (fun f fn hf hfn => by
      obtain rfl : f = 8 := Option.some.inj ((show Tryz.prog.funcNamed "quadform/quadformlaw27.TrainShapes" = some 8 by kernel_rfl).symm.trans hf) |>.symm
      obtain rfl : fn = Tryz.f8 := (Option.some.inj (Tryz.func8.symm.trans hfn)).symm
      refine ⟨by kernel_rfl, fun j t ht => ?_⟩
      rw [Tryz.params8] at ht
      match j, ht with
      | 0, ht => cases ht; exact (show Tryz.prog.wantsStandIn 24 = false by kernel_rfl)
      | 1, ht => cases ht; exact (show Tryz.prog.wantsStandIn 27 = false by kernel_rfl)
      | 2, ht => cases ht; exact (show Tryz.prog.wantsStandIn 5 = false by kernel_rfl)
      | 3, ht => cases ht; exact (show Tryz.prog.wantsStandIn 5 = false by kernel_rfl)
      | 4, ht => cases ht; exact (show Tryz.prog.wantsStandIn 28 = false by kernel_rfl)
      | 5, ht => cases ht; exact (show Tryz.prog.wantsStandIn 4 = false by kernel_rfl)
      | j + 6, ht => simp at ht)
    (by kernel_rfl)

end Go.Proofs.YtgbijhccgmmkgabGreatDoor
