/- The law quadformlaw25.DyadicConstituents holds: whatever the input, it answers true, and the input reads afterwards as it did. No condition is added. -/
import Derived.Test.YtfekcbmhiinioaaTr1
import Derived.Test.YtfekcbmhiinioaaPl6
set_option linter.unusedVariables false
noncomputable section
namespace Go.Proofs.Ytfekcbmhiinioaa
open Go.Cn

theorem dyadicConstituents_holds : Rows.DyadicConstituentsSaid :=
  dyadicConstituents.over (fun xs h => by
    obtain ⟨p0_Prime, p0_T, p0_Blocks, p1, p2, rfl, _⟩ := Fquadformlaw25_DyadicConstituents_args 8 xs h
    exact Fquadformlaw25_DyadicConstituents_ok 100 p0_Prime p0_T p0_Blocks p1 p2 true (law p0_Prime p0_T p0_Blocks p1 p2))

end Go.Proofs.Ytfekcbmhiinioaa
