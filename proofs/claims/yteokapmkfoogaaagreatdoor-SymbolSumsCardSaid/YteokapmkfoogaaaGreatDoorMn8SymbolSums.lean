/- The law quadformlaw26.SymbolSums holds, as the tied card says it: whatever the input, it answers true, and the input reads afterwards as it did. Sums are commutative and associative, and excesses add up. No condition is added. -/
import Derived.Test.YteokapmkfoogaaaGreatDoorTr8SymbolSums
import Derived.Test.YteokapmkfoogaaaGreatDoorQu6
set_option linter.unusedVariables false
noncomputable section
namespace Go.Proofs.YteokapmkfoogaaaGreatDoor
open Go Go.Cn

theorem symbolSums_row : Rows.symbolSumsRow.holds Tryz.pinned (OpenSpec.ofChange Rows.symbolSumsSpec) :=
  symbolSums.over (fun xs h => by
    obtain ⟨p0_Prime, p0_Parts, p1_Prime, p1_Parts, p2_Prime, p2_Parts, rfl, o1, o2, o3, o4, o5, o6⟩ := Fquadformlaw26_SymbolSums_args 8 xs h
    exact Fquadformlaw26_SymbolSums_ok 2500 p0_Prime p0_Parts p1_Prime p1_Parts p2_Prime p2_Parts true (lawSums p0_Prime p0_Parts p1_Prime p1_Parts p2_Prime p2_Parts o1 o2 o4 o6))

theorem symbolSums_holds : Rows.SymbolSumsCardSaid :=
  Claim7.holds_tied_plain_at .later [] [.data, .data, .data] true (true, "1c98e271df1eadbf8ebd141cdb0941461db5712faa7ef92adb39c9cddda82518") false
    symbolSums_row (fun _ h => by cases h) (by kernel_rfl) (fun _ h => by cases h) symbolSums_row_tie rfl ⟨rfl, rfl⟩ (by kernel_rfl) rfl
    (fun f fn hf hfn => by
      obtain rfl : f = 6 := Option.some.inj ((show Tryz.prog.funcNamed "quadform/quadformlaw26.SymbolSums" = some 6 by kernel_rfl).symm.trans hf) |>.symm
      obtain rfl : fn = Tryz.f6 := (Option.some.inj (Tryz.func6.symm.trans hfn)).symm
      refine ⟨by kernel_rfl, fun j t ht => ?_⟩
      rw [Tryz.params6] at ht
      match j, ht with
      | 0, ht => cases ht; exact (show Tryz.prog.wantsStandIn 27 = false by kernel_rfl)
      | 1, ht => cases ht; exact (show Tryz.prog.wantsStandIn 27 = false by kernel_rfl)
      | 2, ht => cases ht; exact (show Tryz.prog.wantsStandIn 27 = false by kernel_rfl)
      | j + 3, ht => simp at ht)
    (by kernel_rfl)

end Go.Proofs.YteokapmkfoogaaaGreatDoor
