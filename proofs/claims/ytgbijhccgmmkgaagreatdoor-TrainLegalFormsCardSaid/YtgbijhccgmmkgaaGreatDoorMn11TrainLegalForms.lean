/- The law quadformlaw27.TrainLegalForms holds, as the tied card says it: whatever the input, it answers true, and the input reads afterwards as it did. Legal are the invariants of sums of blocks. No condition is added. -/
import Derived.Test.YtgbijhccgmmkgaaGreatDoorTr11TrainLegalForms
import Derived.Test.YtgbijhccgmmkgaaGreatDoorTl2
set_option linter.unusedVariables false
noncomputable section
namespace Go.Proofs.YtgbijhccgmmkgaaGreatDoor
open Go Go.Cn

theorem trainLegalForms_row : Rows.trainLegalFormsRow.holds Tryz.pinned (OpenSpec.ofChange Rows.trainLegalFormsSpec) :=
  trainLegalForms.over (fun xs h => by
    obtain ⟨p0, p1, p2, rfl, o1, o2, o3⟩ := Fquadformlaw27_TrainLegalForms_args 8 xs h
    exact Fquadformlaw27_TrainLegalForms_ok 100 p0 p1 p2 true (lawLegalForms p0 p1 p2 o1 o3))

theorem trainLegalForms_holds : Rows.TrainLegalFormsCardSaid :=
  Claim7.holds_tied_plain_at .later [] [.data, .data, .data] true (true, "0bc38e0f9fd25477238738c0dea94d03132b89ab6c148d19e4f29ff5385e3ecd") false
    trainLegalForms_row (fun _ h => by cases h) (by kernel_rfl) (fun _ h => by cases h) trainLegalForms_row_tie rfl ⟨rfl, rfl⟩ (by kernel_rfl) rfl
    (fun f fn hf hfn => by
      obtain rfl : f = 4 := Option.some.inj ((show Tryz.prog.funcNamed "quadform/quadformlaw27.TrainLegalForms" = some 4 by kernel_rfl).symm.trans hf) |>.symm
      obtain rfl : fn = Tryz.f4 := (Option.some.inj (Tryz.func4.symm.trans hfn)).symm
      refine ⟨by kernel_rfl, fun j t ht => ?_⟩
      rw [Tryz.params4] at ht
      match j, ht with
      | 0, ht => cases ht; exact (show Tryz.prog.wantsStandIn 5 = false by kernel_rfl)
      | 1, ht => cases ht; exact (show Tryz.prog.wantsStandIn 4 = false by kernel_rfl)
      | 2, ht => cases ht; exact (show Tryz.prog.wantsStandIn 5 = false by kernel_rfl)
      | j + 3, ht => simp at ht)
    (by kernel_rfl)

end Go.Proofs.YtgbijhccgmmkgaaGreatDoor
