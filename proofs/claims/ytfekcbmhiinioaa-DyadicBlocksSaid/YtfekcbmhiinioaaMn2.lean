/- The law quadformlaw25.DyadicBlocks holds: whatever the input, it answers true, and the input reads afterwards as it did. No condition is added. -/
import Derived.Test.YtfekcbmhiinioaaTr2
import Derived.Test.YtfekcbmhiinioaaQd6
set_option linter.unusedVariables false
noncomputable section
namespace Go.Proofs.Ytfekcbmhiinioaa
open Go.Cn

theorem dyadicBlocks_holds : Rows.DyadicBlocksSaid :=
  dyadicBlocks.over (fun xs h => by
    obtain ⟨p0, p1, p2, p3, rfl, o1, o2, o3, o4⟩ := Fquadformlaw25_DyadicBlocks_args 8 xs h
    exact Fquadformlaw25_DyadicBlocks_ok 100 p0 p1 p2 p3 true (lawB p0 p1 p2 p3 o1 o2 o3 o4))

end Go.Proofs.Ytfekcbmhiinioaa
