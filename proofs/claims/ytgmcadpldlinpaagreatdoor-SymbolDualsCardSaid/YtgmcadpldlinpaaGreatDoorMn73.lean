/- The law quadformlaw26.SymbolDuals holds, as the tied card says it: whatever the input, it answers true, and the input reads afterwards as it did. No condition is added. -/
import Derived.Test.YtgmcadpldlinpaaGreatDoorTr7SymbolDuals
import Derived.Test.YtgmcadpldlinpaaGreatDoorQt8
set_option linter.unusedVariables false
noncomputable section
namespace Go.Proofs.YtgmcadpldlinpaaGreatDoor
open Go Go.Cn

theorem symbolDuals_row : Rows.symbolDualsRow.holds Tryz.pinned (OpenSpec.ofChange Rows.symbolDualsSpec) :=
  symbolDuals.over (fun xs h => by
    obtain ⟨p0_Prime, p0_Parts, p1, rfl, o1, o2, o3⟩ := Fquadformlaw26_SymbolDuals_args 8 xs h
    exact Fquadformlaw26_SymbolDuals_ok 300 p0_Prime p0_Parts p1 true (lawDuals p0_Prime p0_Parts p1 o1 o2 o3))

theorem symbolDuals_holds : Rows.SymbolDualsCardSaid :=
  Claim7.holds_tied_plain_at .later [] [.data, .data, .data] true (true, "48d02870489ecf56a4a53f63652a1b0af3947017cb2be9478f2ff887484d385b") false
    symbolDuals_row (fun _ h => by cases h) (by kernel_rfl) (fun _ h => by cases h) symbolDuals_row_tie rfl ⟨rfl, rfl⟩ (by kernel_rfl) rfl
    (fun f fn hf hfn => by
      obtain rfl : f = 6 := Option.some.inj ((show Tryz.prog.funcNamed "quadform/quadformlaw26.SymbolDuals" = some 6 by kernel_rfl).symm.trans hf) |>.symm
      obtain rfl : fn = Tryz.f6 := (Option.some.inj (Tryz.func6.symm.trans hfn)).symm
      refine ⟨by kernel_rfl, fun j t ht => ?_⟩
      rw [Tryz.params6] at ht
      match j, ht with
      | 0, ht => cases ht; exact (show Tryz.prog.wantsStandIn 27 = false by kernel_rfl)
      | 1, ht => cases ht; exact (show Tryz.prog.wantsStandIn 5 = false by kernel_rfl)
      | j + 2, ht => simp at ht)
    (by kernel_rfl)

end Go.Proofs.YtgmcadpldlinpaaGreatDoor
