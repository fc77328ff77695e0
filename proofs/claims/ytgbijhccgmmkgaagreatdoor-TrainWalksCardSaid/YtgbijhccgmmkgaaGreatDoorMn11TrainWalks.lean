/- The law quadformlaw27.TrainWalks holds, as the tied card says it: whatever the input, it answers true, and the input reads afterwards as it did. A walk keeps a fused symbol fused, keeps its oddity, and leads back. No condition is added. -/
import Derived.Test.YtgbijhccgmmkgaaGreatDoorTr11TrainWalks
import Derived.Test.YtgbijhccgmmkgaaGreatDoorTx3
set_option linter.unusedVariables false
noncomputable section
namespace Go.Proofs.YtgbijhccgmmkgaaGreatDoor
open Go Go.Cn

theorem trainWalks_row : Rows.trainWalksRow.holds Tryz.pinned (OpenSpec.ofChange Rows.trainWalksSpec) :=
  trainWalks.over (fun xs h => by
    obtain ⟨p0Pr, p0P, p1, rfl, o1, o2, o3⟩ := F1 8 xs h
    exact F2 2000 p0Pr p0P p1 true (lawWalks p0Pr p0P p1 o2 o3))

theorem trainWalks_holds : Rows.TrainWalksCardSaid :=
  Claim7.holds_tied_plain_at .later [] [.data, .data, .data] true (true, "0bc38e0f9fd25477238738c0dea94d03132b89ab6c148d19e4f29ff5385e3ecd") false
    trainWalks_row (fun _ h => by cases h) (by kernel_rfl) (fun _ h => by cases h) trainWalks_row_tie rfl ⟨rfl, rfl⟩ (by kernel_rfl) rfl
    (fun f fn hf hfn => by
      obtain rfl : f = 11 := Option.some.inj ((show Tryz.prog.funcNamed "quadform/quadformlaw27.TrainWalks" = some 11 by kernel_rfl).symm.trans hf) |>.symm
      obtain rfl : fn = Tryz.f11 := (Option.some.inj (Tryz.func11.symm.trans hfn)).symm
      refine ⟨by kernel_rfl, fun j t ht => ?_⟩
      rw [Tryz.params11] at ht
      match j, ht with
      | 0, ht => cases ht; exact (show Tryz.prog.wantsStandIn 35 = false by kernel_rfl)
      | 1, ht => cases ht; exact (show Tryz.prog.wantsStandIn 5 = false by kernel_rfl)
      | j + 2, ht => simp at ht)
    (by kernel_rfl)

end Go.Proofs.YtgbijhccgmmkgaaGreatDoor
