/- The law quadformlaw26.SymbolValid holds, as the tied card says it: whatever the input, it answers true, and the input reads afterwards as it did. Which values are symbols is what the document says. No condition is added. -/
import Derived.Test.YteokapmkfoogaaaGreatDoorTr9SymbolValid
import Derived.Test.YteokapmkfoogaaaGreatDoorSy2
set_option linter.unusedVariables false
noncomputable section
namespace Go.Proofs.YteokapmkfoogaaaGreatDoor
open Go Go.Cn

theorem symbolValid_row : Rows.symbolValidRow.holds Tryz.pinned (OpenSpec.ofChange Rows.symbolValidSpec) :=
  symbolValid.over (fun xs h => by
    obtain ⟨p0_Prime, p0_List, p1_Prime, p1_Parts, p2, p3, p4, rfl, o1, o2, o3, o4, o5, o6, o7⟩ := Fquadformlaw26_SymbolValid_args 8 xs h
    exact Fquadformlaw26_SymbolValid_ok 2000 p0_Prime p0_List p1_Prime p1_Parts p2 p3 p4 true (lawValid p0_Prime p0_List p1_Prime p1_Parts p2 p3 p4 o3 o4 o5))

theorem symbolValid_holds : Rows.SymbolValidCardSaid :=
  Claim7.holds_tied_plain_at .later [] [.data, .data, .data] true (true, "1c98e271df1eadbf8ebd141cdb0941461db5712faa7ef92adb39c9cddda82518") false
    symbolValid_row (fun _ h => by cases h) (by kernel_rfl) (fun _ h => by cases h) symbolValid_row_tie rfl ⟨rfl, rfl⟩ (by kernel_rfl) rfl
    (fun f fn hf hfn => by
      obtain rfl : f = 3 := Option.some.inj ((show Tryz.prog.funcNamed "quadform/quadformlaw26.SymbolValid" = some 3 by kernel_rfl).symm.trans hf) |>.symm
      obtain rfl : fn = Tryz.f3 := (Option.some.inj (Tryz.func3.symm.trans hfn)).symm
      refine ⟨by kernel_rfl, fun j t ht => ?_⟩
      rw [Tryz.params3] at ht
      match j, ht with
      | 0, ht => cases ht; exact (show Tryz.prog.wantsStandIn 24 = false by kernel_rfl)
      | 1, ht => cases ht; exact (show Tryz.prog.wantsStandIn 27 = false by kernel_rfl)
      | 2, ht => cases ht; exact (show Tryz.prog.wantsStandIn 5 = false by kernel_rfl)
      | 3, ht => cases ht; exact (show Tryz.prog.wantsStandIn 5 = false by kernel_rfl)
      | 4, ht => cases ht; exact (show Tryz.prog.wantsStandIn 28 = false by kernel_rfl)
      | j + 5, ht => simp at ht)
    (by kernel_rfl)

end Go.Proofs.YteokapmkfoogaaaGreatDoor
