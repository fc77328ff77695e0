/- The law quadformlaw26.SymbolExcess holds, as the tied card says it: whatever the input, it answers true, and the input reads afterwards as it did. No condition is added. -/
import Derived.Test.YtgmcadpldlinpaaGreatDoorTr71
import Derived.Test.YtgmcadpldlinpaaGreatDoorQs4
set_option linter.unusedVariables false
noncomputable section
namespace Go.Proofs.YtgmcadpldlinpaaGreatDoor
open Go Go.Cn

theorem symbolExcess_row : Rows.symbolExcessRow.holds Tryz.pinned (OpenSpec.ofChange Rows.symbolExcessSpec) :=
  symbolExcess.over (fun xs h => by
    obtain ⟨p0_Prime, p0_List, p1_Prime, p1_Parts, p2, rfl, o1, o2, o3, o4, o5⟩ := Fquadformlaw26_SymbolExcess_args 8 xs h
    exact Fquadformlaw26_SymbolExcess_ok 300 p0_Prime p0_List p1_Prime p1_Parts p2 true (lawExcess p0_Prime p0_List p1_Prime p1_Parts p2 o3 o4))

theorem symbolExcess_holds : Rows.SymbolExcessCardSaid :=
  Claim7.holds_tied_plain_at .later [] [.data, .data, .data] true (true, "48d02870489ecf56a4a53f63652a1b0af3947017cb2be9478f2ff887484d385b") false
    symbolExcess_row (fun _ h => by cases h) (by kernel_rfl) (fun _ h => by cases h) symbolExcess_row_tie rfl ⟨rfl, rfl⟩ (by kernel_rfl) rfl
    (fun f fn hf hfn => by
      obtain rfl : f = 4 := Option.some.inj ((show Tryz.prog.funcNamed "quadform/quadformlaw26.SymbolExcess" = some 4 by kernel_rfl).symm.trans hf) |>.symm
      obtain rfl : fn = Tryz.f4 := (Option.some.inj (Tryz.func4.symm.trans hfn)).symm
      refine ⟨by kernel_rfl, fun j t ht => ?_⟩
      rw [Tryz.params4] at ht
      match j, ht with
      | 0, ht => cases ht; exact (show Tryz.prog.wantsStandIn 24 = false by kernel_rfl)
      | 1, ht => cases ht; exact (show Tryz.prog.wantsStandIn 27 = false by kernel_rfl)
      | 2, ht => cases ht; exact (show Tryz.prog.wantsStandIn 4 = false by kernel_rfl)
      | j + 3, ht => simp at ht)
    (by kernel_rfl)

end Go.Proofs.YtgmcadpldlinpaaGreatDoor
