/- The law quadformlaw27.TrainSum holds, as the tied card says it: whatever the input, it answers true, and the input reads afterwards as it did. The sum of raw symbols is that of the document. No condition is added. -/
import Derived.Test.YtgbijhccgmmkgaaGreatDoorTr11TrainSum
import Derived.Test.YtgbijhccgmmkgaaGreatDoorTl4
set_option linter.unusedVariables false
noncomputable section
namespace Go.Proofs.YtgbijhccgmmkgaaGreatDoor
open Go Go.Cn

theorem trainSum_row : Rows.trainSumRow.holds Tryz.pinned (OpenSpec.ofChange Rows.trainSumSpec) :=
  trainSum.over (fun xs h => by
    obtain ⟨p0_Prime, p0_List, p1_Prime, p1_List, p2_Prime, p2_Parts, p3_Prime, p3_Parts, p4, rfl, o1, o2, o3, o4, o5, o6, o7, o8, o9⟩ := Fquadformlaw27_TrainSum_args 8 xs h
    exact Fquadformlaw27_TrainSum_ok 2000 p0_Prime p0_List p1_Prime p1_List p2_Prime p2_Parts p3_Prime p3_Parts p4 true (lawTrainSum p0_Prime p0_List p1_Prime p1_List p2_Prime p2_Parts p3_Prime p3_Parts p4 o6 o8))

theorem trainSum_holds : Rows.TrainSumCardSaid :=
  Claim7.holds_tied_plain_at .later [] [.data, .data, .data] true (true, "0bc38e0f9fd25477238738c0dea94d03132b89ab6c148d19e4f29ff5385e3ecd") false
    trainSum_row (fun _ h => by cases h) (by kernel_rfl) (fun _ h => by cases h) trainSum_row_tie rfl ⟨rfl, rfl⟩ (by kernel_rfl) rfl
    (fun f fn hf hfn => by
      obtain rfl : f = 5 := Option.some.inj ((show Tryz.prog.funcNamed "quadform/quadformlaw27.TrainSum" = some 5 by kernel_rfl).symm.trans hf) |>.symm
      obtain rfl : fn = Tryz.f5 := (Option.some.inj (Tryz.func5.symm.trans hfn)).symm
      refine ⟨by kernel_rfl, fun j t ht => ?_⟩
      rw [Tryz.params5] at ht
      match j, ht with
      | 0, ht => cases ht; exact (show Tryz.prog.wantsStandIn 32 = false by kernel_rfl)
      | 1, ht => cases ht; exact (show Tryz.prog.wantsStandIn 32 = false by kernel_rfl)
      | 2, ht => cases ht; exact (show Tryz.prog.wantsStandIn 35 = false by kernel_rfl)
      | 3, ht => cases ht; exact (show Tryz.prog.wantsStandIn 35 = false by kernel_rfl)
      | 4, ht => cases ht; exact (show Tryz.prog.wantsStandIn 4 = false by kernel_rfl)
      | j + 5, ht => simp at ht)
    (by kernel_rfl)

end Go.Proofs.YtgbijhccgmmkgaaGreatDoor
