/- The law quadformlaw24.JordanConstituents holds: whatever the input, it answers true, and the input reads afterwards as it did. No condition is added. -/
import Derived.Test.YtfekcbmhiinioaaTr3
import Derived.Test.YtfekcbmhiinioaaQj3
set_option linter.unusedVariables false
noncomputable section
namespace Go.Proofs.Ytfekcbmhiinioaa
open Go.Cn

theorem jordanConstituents_holds : Rows.JordanConstituentsSaid :=
  jordanConstituents.over (fun xs h => by
    obtain ⟨p0_Prime, p0_T, p0_Blocks, p1, p2, p3, rfl, o1, o2, o3, o4, o5, o6⟩ := Fquadformlaw24_JordanConstituents_args 8 xs h
    exact Fquadformlaw24_JordanConstituents_ok 300 p0_Prime p0_T p0_Blocks p1 p2 p3 true (lawJ p0_Prime p0_T p0_Blocks p1 p2 p3 (by have := o5.1; have e : IntKind.min .u8 = 0 := rfl; omega)))

end Go.Proofs.Ytfekcbmhiinioaa
