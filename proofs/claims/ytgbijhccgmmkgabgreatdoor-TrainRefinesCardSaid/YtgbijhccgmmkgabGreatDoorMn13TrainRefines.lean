/- The law quadformlaw27.TrainRefines holds, as the tied card says it: whatever the input, it answers true, and the input reads afterwards as it did. The raw symbol itself has oddities such as the search looks for; what it finds first is not above them. No condition is added. -/
import Derived.Test.YtgbijhccgmmkgabGreatDoorTr13TrainRefines
import Derived.Test.YtgbijhccgmmkgabGreatDoorLx3
set_option linter.unusedVariables false
noncomputable section
namespace Go.Proofs.YtgbijhccgmmkgabGreatDoor
open Go Go.Cn

theorem trainRefines_row : Rows.trainRefinesRow.holds Tryz.pinned (OpenSpec.ofChange Rows.trainRefinesSpec) :=
  trainRefines.over (fun xs h => by
    obtain ⟨p0Pr, p0P, rfl, o1, o2⟩ := F1 8 xs h
    exact F2 2000 p0Pr p0P true (lawRefines p0Pr p0P o2))

theorem trainRefines_holds : Rows.TrainRefinesCardSaid :=
  Claim7.holds_tied_plain_at .later [] [.data, .data, .data] true (true, "1bcd07cc23892cbbf0b4b8ad1ce4a654c4a5b30b4056c4e7797680d85bba9356") false
    trainRefines_row (fun _ h => by cases h) (by kernel_rfl) (fun _ h => by cases h) trainRefines_row_tie rfl ⟨rfl, rfl⟩ (by kernel_rfl) rfl
    (fun f fn hf hfn => by
      obtain rfl : f = 7 := Option.some.inj ((show Tryz.prog.funcNamed "quadform/quadformlaw27.TrainRefines" = some 7 by kernel_rfl).symm.trans hf) |>.symm
      obtain rfl : fn = Tryz.f7 := (Option.some.inj (Tryz.func7.symm.trans hfn)).symm
      refine ⟨by kernel_rfl, fun j t ht => ?_⟩
      rw [Tryz.params7] at ht
      match j, ht with
      | 0, ht => cases ht; exact (show Tryz.prog.wantsStandIn 27 = false by kernel_rfl)
      | j + 1, ht => simp at ht)
    (by kernel_rfl)

end Go.Proofs.YtgbijhccgmmkgabGreatDoor
