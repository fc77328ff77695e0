/- The law quadformlaw27.TrainWalk holds, as the tied card says it: whatever the input, it answers true, and the input reads afterwards as it did. A list of two arguments is fused or not, and both ways of walking a sign answer alike. No condition is added. -/
import Derived.Test.YtgbijhccgmmkgaaGreatDoorTr11TrainWalk
import Derived.Test.YtgbijhccgmmkgaaGreatDoorTw2
set_option linter.unusedVariables false
noncomputable section
namespace Go.Proofs.YtgbijhccgmmkgaaGreatDoor
open Go Go.Cn

theorem trainWalk_row : Rows.trainWalkRow.holds Tryz.pinned (OpenSpec.ofChange Rows.trainWalkSpec) :=
  trainWalk.over (fun xs h => by
    obtain ⟨p0Pr, p0L, p1Pr, p1P, p2, p3, p4, rfl, o1, o2, o3, o4, o5, o6, o7⟩ := F1 8 xs h
    exact F2 2000 p0Pr p0L p1Pr p1P p2 p3 p4 true (lawWalk p0Pr p0L p1Pr p1P p2 p3 p4 o4))

theorem trainWalk_holds : Rows.TrainWalkCardSaid :=
  Claim7.holds_tied_plain_at .later [] [.data, .data, .data] true (true, "0bc38e0f9fd25477238738c0dea94d03132b89ab6c148d19e4f29ff5385e3ecd") false
    trainWalk_row (fun _ h => by cases h) (by kernel_rfl) (fun _ h => by cases h) trainWalk_row_tie rfl ⟨rfl, rfl⟩ (by kernel_rfl) rfl
    (fun f fn hf hfn => by
      obtain rfl : f = 7 := Option.some.inj ((show Tryz.prog.funcNamed "quadform/quadformlaw27.TrainWalk" = some 7 by kernel_rfl).symm.trans hf) |>.symm
      obtain rfl : fn = Tryz.f7 := (Option.some.inj (Tryz.func7.symm.trans hfn)).symm
      refine ⟨by kernel_rfl, fun j t ht => ?_⟩
      rw [Tryz.params7] at ht
      match j, ht with
      | 0, ht => cases ht; exact (show Tryz.prog.wantsStandIn 32 = false by kernel_rfl)
      | 1, ht => cases ht; exact (show Tryz.prog.wantsStandIn 35 = false by kernel_rfl)
      | 2, ht => cases ht; exact (show Tryz.prog.wantsStandIn 3 = false by kernel_rfl)
      | 3, ht => cases ht; exact (show Tryz.prog.wantsStandIn 4 = false by kernel_rfl)
      | 4, ht => cases ht; exact (show Tryz.prog.wantsStandIn 4 = false by kernel_rfl)
      | j + 5, ht => simp at ht)
    (by kernel_rfl)

end Go.Proofs.YtgbijhccgmmkgaaGreatDoor
