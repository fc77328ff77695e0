/- The law quadformlaw26.SymbolScale holds, as the tied card says it: whatever the input, it answers true, and the input reads afterwards as it did. No condition is added. -/
import Derived.Test.YtgmcadpldlinpaaGreatDoorTr7SymbolScale
import Derived.Test.YtgmcadpldlinpaaGreatDoorQt7
set_option linter.unusedVariables false
noncomputable section
namespace Go.Proofs.YtgmcadpldlinpaaGreatDoor
open Go Go.Cn

theorem symbolScale_row : Rows.symbolScaleRow.holds Tryz.pinned (OpenSpec.ofChange Rows.symbolScaleSpec) :=
  symbolScale.over (fun xs h => by
    obtain ⟨p0_Prime, p0_List, p1_Prime, p1_Parts, p2, p3, p4, rfl, o1, o2, o3, o4, o5, o6, o7⟩ := Fquadformlaw26_SymbolScale_args 8 xs h
    exact Fquadformlaw26_SymbolScale_ok 300 p0_Prime p0_List p1_Prime p1_Parts p2 p3 p4 true (lawScale p0_Prime p0_List p1_Prime p1_Parts p2 p3 p4 o3 o4 o5))

theorem symbolScale_holds : Rows.SymbolScaleCardSaid :=
  Claim7.holds_tied_plain_at .later [] [.data, .data, .data] true (true, "48d02870489ecf56a4a53f63652a1b0af3947017cb2be9478f2ff887484d385b") false
    symbolScale_row (fun _ h => by cases h) (by kernel_rfl) (fun _ h => by cases h) symbolScale_row_tie rfl ⟨rfl, rfl⟩ (by kernel_rfl) rfl
    (fun f fn hf hfn => by
      obtain rfl : f = 5 := Option.some.inj ((show Tryz.prog.funcNamed "quadform/quadformlaw26.SymbolScale" = some 5 by kernel_rfl).symm.trans hf) |>.symm
      obtain rfl : fn = Tryz.f5 := (Option.some.inj (Tryz.func5.symm.trans hfn)).symm
      refine ⟨by kernel_rfl, fun j t ht => ?_⟩
      rw [Tryz.params5] at ht
      match j, ht with
      | 0, ht => cases ht; exact (show Tryz.prog.wantsStandIn 24 = false by kernel_rfl)
      | 1, ht => cases ht; exact (show Tryz.prog.wantsStandIn 27 = false by kernel_rfl)
      | 2, ht => cases ht; exact (show Tryz.prog.wantsStandIn 3 = false by kernel_rfl)
      | 3, ht => cases ht; exact (show Tryz.prog.wantsStandIn 4 = false by kernel_rfl)
      | 4, ht => cases ht; exact (show Tryz.prog.wantsStandIn 4 = false by kernel_rfl)
      | j + 5, ht => simp at ht)
    (by kernel_rfl)

end Go.Proofs.YtgmcadpldlinpaaGreatDoor
