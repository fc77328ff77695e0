/- The law quadformlaw27.TrainRefine holds, as the tied card says it: whatever the input, it answers true, and the input reads afterwards as it did. Both search the least oddities by the same recursion. No condition is added. -/
import Derived.Test.YtgbijhccgmmkgabGreatDoorTr13TrainRefine
import Derived.Test.YtgbijhccgmmkgabGreatDoorLr2
set_option linter.unusedVariables false
noncomputable section
namespace Go.Proofs.YtgbijhccgmmkgabGreatDoor
open Go Go.Cn

theorem trainRefine_row : Rows.trainRefineRow.holds Tryz.pinned (OpenSpec.ofChange Rows.trainRefineSpec) :=
  trainRefine.over (fun xs h => by
    obtain ⟨p0Pr, p0L, p1Pr, p1P, p2, p3, p4, p5, rfl, o1, o2, o3, o4, o5, o6, o7, o8⟩ := F1 8 xs h
    exact F2 2000 p0Pr p0L p1Pr p1P p2 p3 p4 p5 true (lawRefine p0Pr p0L p1Pr p1P p2 p3 p4 p5 o3 o4 o5))

theorem trainRefine_holds : Rows.TrainRefineCardSaid :=
  Claim7.holds_tied_plain_at .later [] [.data, .data, .data] true (true, "1bcd07cc23892cbbf0b4b8ad1ce4a654c4a5b30b4056c4e7797680d85bba9356") false
    trainRefine_row (fun _ h => by cases h) (by kernel_rfl) (fun _ h => by cases h) trainRefine_row_tie rfl ⟨rfl, rfl⟩ (by kernel_rfl) rfl
    (fun f fn hf hfn => by
      obtain rfl : f = 6 := Option.some.inj ((show Tryz.prog.funcNamed "quadform/quadformlaw27.TrainRefine" = some 6 by kernel_rfl).symm.trans hf) |>.symm
      obtain rfl : fn = Tryz.f6 := (Option.some.inj (Tryz.func6.symm.trans hfn)).symm
      refine ⟨by kernel_rfl, fun j t ht => ?_⟩
      rw [Tryz.params6] at ht
      match j, ht with
      | 0, ht => cases ht; exact (show Tryz.prog.wantsStandIn 24 = false by kernel_rfl)
      | 1, ht => cases ht; exact (show Tryz.prog.wantsStandIn 27 = false by kernel_rfl)
      | 2, ht => cases ht; exact (show Tryz.prog.wantsStandIn 5 = false by kernel_rfl)
      | 3, ht => cases ht; exact (show Tryz.prog.wantsStandIn 5 = false by kernel_rfl)
      | 4, ht => cases ht; exact (show Tryz.prog.wantsStandIn 28 = false by kernel_rfl)
      | 5, ht => cases ht; exact (show Tryz.prog.wantsStandIn 4 = false by kernel_rfl)
      | j + 6, ht => simp at ht)
    (by kernel_rfl)

end Go.Proofs.YtgbijhccgmmkgabGreatDoor
