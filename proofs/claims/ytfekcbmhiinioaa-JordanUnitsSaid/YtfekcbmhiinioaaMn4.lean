/- The law quadformlaw24.JordanUnits holds: whatever the input, it answers true, and the input reads afterwards as it did. No condition is added. -/
import Derived.Test.YtfekcbmhiinioaaTr4
import Derived.Test.YtfekcbmhiinioaaQv6
set_option linter.unusedVariables false
noncomputable section
namespace Go.Proofs.Ytfekcbmhiinioaa
open Go.Cn

theorem jordanUnits_holds : Rows.JordanUnitsSaid :=
  jordanUnits.over (fun xs h => by
    obtain ⟨p0, p1, p2, p3, rfl, o1, o2, o3, o4⟩ := Fquadformlaw24_JordanUnits_args 8 xs h
    exact Fquadformlaw24_JordanUnits_ok 300 p0 p1 p2 p3 true (lawU p0 p1 p2 p3 o1 o2 o3 o4))

end Go.Proofs.Ytfekcbmhiinioaa
