import Derived.Test.YtgbijhccgmmkgaaGreatDoorTy11
import Derived.Test.YtgbijhccgmmkgaaGreatDoorProg
set_option linter.unusedVariables false
set_option maxRecDepth 100000
set_option maxHeartbeats 0
noncomputable section
namespace Go.Cn
open Go.Proofs
/-! ### quadform/quadformlaw27.long -/
abbrev F8.R : Type := Bool
def F8.encR (r : F8.R) : CV := CV.bool r
def F8.b (k : Nat) (p0_Prime : Int) (p0_List : List Constituent) : Option F8.R := (some ((decide (((p0_List).length : Int) > (20 : Int)))))
def F8 (k : Nat) (p0_Prime : Int) (p0_List : List Constituent) : Option F8.R := F8.b k p0_Prime p0_List
end Go.Cn
