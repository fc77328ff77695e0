/- The law quadformlaw26.SymbolCompare holds, as the tied card says it: whatever the input, it answers true, and the input reads afterwards as it did. The order of symbols is that of the document. No condition is added. -/
import Derived.Test.YteokapmkfoogaaaGreatDoorTr9SymbolCompare
import Derived.Test.YteokapmkfoogaaaGreatDoorSy3
set_option linter.unusedVariables false
noncomputable section
namespace Go.Proofs.YteokapmkfoogaaaGreatDoor
open Go Go.Cn

theorem symbolCompare_row : Rows.symbolCompareRow.holds Tryz.pinned (OpenSpec.ofChange Rows.symbolCompareSpec) :=
  symbolCompare.over (fun xs h => by
    obtain ⟨p0_Prime, p0_List, p1_Prime, p1_List, p2_Prime, p2_Parts, p3_Prime, p3_Parts, p4, p5, p6, p7, p8, rfl, o1, o2, o3, o4, o5, o6, o7, o8, o9, o10, o11, o12, o13⟩ := Fquadformlaw26_SymbolCompare_args 8 xs h
    exact Fquadformlaw26_SymbolCompare_ok 2000 p0_Prime p0_List p1_Prime p1_List p2_Prime p2_Parts p3_Prime p3_Parts p4 p5 p6 p7 p8 true (lawCompare p0_Prime p0_List p1_Prime p1_List p2_Prime p2_Parts p3_Prime p3_Parts p4 p5 p6 p7 p8 o5 o6 o7 o8 o9))

theorem symbolCompare_holds : Rows.SymbolCompareCardSaid :=
  Claim7.holds_tied_plain_at .later [] [.data, .data, .data] true (true, "1c98e271df1eadbf8ebd141cdb0941461db5712faa7ef92adb39c9cddda82518") false
    symbolCompare_row (fun _ h => by cases h) (by kernel_rfl) (fun _ h => by cases h) symbolCompare_row_tie rfl ⟨rfl, rfl⟩ (by kernel_rfl) rfl
    (fun f fn hf hfn => by
      obtain rfl : f = 9 := Option.some.inj ((show Tryz.prog.funcNamed "quadform/quadformlaw26.SymbolCompare" = some 9 by kernel_rfl).symm.trans hf) |>.symm
      obtain rfl : fn = Tryz.f9 := (Option.some.inj (Tryz.func9.symm.trans hfn)).symm
      refine ⟨by kernel_rfl, fun j t ht => ?_⟩
      rw [Tryz.params9] at ht
      match j, ht with
      | 0, ht => cases ht; exact (show Tryz.prog.wantsStandIn 24 = false by kernel_rfl)
      | 1, ht => cases ht; exact (show Tryz.prog.wantsStandIn 24 = false by kernel_rfl)
      | 2, ht => cases ht; exact (show Tryz.prog.wantsStandIn 27 = false by kernel_rfl)
      | 3, ht => cases ht; exact (show Tryz.prog.wantsStandIn 27 = false by kernel_rfl)
      | 4, ht => cases ht; exact (show Tryz.prog.wantsStandIn 5 = false by kernel_rfl)
      | 5, ht => cases ht; exact (show Tryz.prog.wantsStandIn 5 = false by kernel_rfl)
      | 6, ht => cases ht; exact (show Tryz.prog.wantsStandIn 28 = false by kernel_rfl)
      | 7, ht => cases ht; exact (show Tryz.prog.wantsStandIn 4 = false by kernel_rfl)
      | 8, ht => cases ht; exact (show Tryz.prog.wantsStandIn 4 = false by kernel_rfl)
      | j + 9, ht => simp at ht)
    (by kernel_rfl)

end Go.Proofs.YteokapmkfoogaaaGreatDoor
