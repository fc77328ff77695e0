/- The law quadformlaw27.TrainCovers holds, as the tied card says it: whatever the input, it answers true, and the input reads afterwards as it did. The trains of a symbol are intervals that follow each other, and its compartments are intervals of odd constituents. No condition is added. -/
import Derived.Test.YtgbijhccgmmkgaaGreatDoorTr11TrainCovers
import Derived.Test.YtgbijhccgmmkgaaGreatDoorTv2
set_option linter.unusedVariables false
noncomputable section
namespace Go.Proofs.YtgbijhccgmmkgaaGreatDoor
open Go Go.Cn

theorem trainCovers_row : Rows.trainCoversRow.holds Tryz.pinned (OpenSpec.ofChange Rows.trainCoversSpec) :=
  trainCovers.over (fun xs h => by
    obtain ⟨p0_Prime, p0_Parts, rfl, o1, o2⟩ := F1 8 xs h
    exact F2 2000 p0_Prime p0_Parts true (lawCovers p0_Prime p0_Parts o2))

theorem trainCovers_holds : Rows.TrainCoversCardSaid :=
  Claim7.holds_tied_plain_at .later [] [.data, .data, .data] true (true, "0bc38e0f9fd25477238738c0dea94d03132b89ab6c148d19e4f29ff5385e3ecd") false
    trainCovers_row (fun _ h => by cases h) (by kernel_rfl) (fun _ h => by cases h) trainCovers_row_tie rfl ⟨rfl, rfl⟩ (by kernel_rfl) rfl
    (fun f fn hf hfn => by
      obtain rfl : f = 10 := Option.some.inj ((show Tryz.prog.funcNamed "quadform/quadformlaw27.TrainCovers" = some 10 by kernel_rfl).symm.trans hf) |>.symm
      obtain rfl : fn = Tryz.f10 := (Option.some.inj (Tryz.func10.symm.trans hfn)).symm
      refine ⟨by kernel_rfl, fun j t ht => ?_⟩
      rw [Tryz.params10] at ht
      match j, ht with
      | 0, ht => cases ht; exact (show Tryz.prog.wantsStandIn 35 = false by kernel_rfl)
      | j + 1, ht => simp at ht)
    (by kernel_rfl)

end Go.Proofs.YtgbijhccgmmkgaaGreatDoor
