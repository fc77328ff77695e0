/- The law quadformlaw27.TrainLegal holds, as the tied card says it: whatever the input, it answers true, and the input reads afterwards as it did. Which constituents are legal is what the document says. No condition is added. -/
import Derived.Test.YtgbijhccgmmkgaaGreatDoorTr11TrainLegal
import Derived.Test.YtgbijhccgmmkgaaGreatDoorTl1
set_option linter.unusedVariables false
noncomputable section
namespace Go.Proofs.YtgbijhccgmmkgaaGreatDoor
open Go Go.Cn

theorem trainLegal_row : Rows.trainLegalRow.holds Tryz.pinned (OpenSpec.ofChange Rows.trainLegalSpec) :=
  trainLegal.over (fun xs h => by
    obtain ⟨p0_Exp, p0_Dim, p0_Sign, p0_Odd, p0_Oddity, p1_x0, p1_x1, p1_x2, p1_x3, p2, p3, rfl, o1, o2, o3, o4, o5, o6, o7, o8, o9, o10, o11⟩ := Fquadformlaw27_TrainLegal_args 8 xs h
    exact Fquadformlaw27_TrainLegal_ok 20 p0_Exp p0_Dim p0_Sign p0_Odd p0_Oddity p1_x0 p1_x1 p1_x2 p1_x3 p2 p3 true (lawLegal p0_Exp p0_Dim p0_Sign p0_Odd p0_Oddity p1_x0 p1_x1 p1_x2 p1_x3 p2 p3))

theorem trainLegal_holds : Rows.TrainLegalCardSaid :=
  Claim7.holds_tied_plain_at .later [] [.data, .data, .data] true (true, "0bc38e0f9fd25477238738c0dea94d03132b89ab6c148d19e4f29ff5385e3ecd") false
    trainLegal_row (fun _ h => by cases h) (by kernel_rfl) (fun _ h => by cases h) trainLegal_row_tie rfl ⟨rfl, rfl⟩ (by kernel_rfl) rfl
    (fun f fn hf hfn => by
      obtain rfl : f = 3 := Option.some.inj ((show Tryz.prog.funcNamed "quadform/quadformlaw27.TrainLegal" = some 3 by kernel_rfl).symm.trans hf) |>.symm
      obtain rfl : fn = Tryz.f3 := (Option.some.inj (Tryz.func3.symm.trans hfn)).symm
      refine ⟨by kernel_rfl, fun j t ht => ?_⟩
      rw [Tryz.params3] at ht
      match j, ht with
      | 0, ht => cases ht; exact (show Tryz.prog.wantsStandIn 23 = false by kernel_rfl)
      | 1, ht => cases ht; exact (show Tryz.prog.wantsStandIn 24 = false by kernel_rfl)
      | 2, ht => cases ht; exact (show Tryz.prog.wantsStandIn 4 = false by kernel_rfl)
      | 3, ht => cases ht; exact (show Tryz.prog.wantsStandIn 4 = false by kernel_rfl)
      | j + 4, ht => simp at ht)
    (by kernel_rfl)

end Go.Proofs.YtgbijhccgmmkgaaGreatDoor
