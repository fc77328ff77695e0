/- A walk of a sign: what the program and the document compute. -/
import Derived.Test.YtgbijhccgmmkgabGreatDoorTy13
import Derived.Test.YtgbijhccgmmkgabGreatDoorTf13m0
import Derived.Test.YtgbijhccgmmkgabGreatDoorProg
import Derived.Test.YtgbijhccgmmkgabGreatDoorTf13m3
import Derived.Test.YtgbijhccgmmkgabGreatDoorTd2
import Derived.Test.YtgbijhccgmmkgabGreatDoorTa5
import Derived.Test.YtgbijhccgmmkgabGreatDoorTe1
set_option linter.unusedVariables false
noncomputable section
open Classical
namespace Go.Cn

def add4F (L : List ua0) : List Int → List ua0
  | [] => L
  | i :: r => add4F (add4 L i) r

/-- the first constituents of the compartments of i - 1 and i -/
def firsts (p q : List Int) : List Int :=
  match p, q with
  | [], [] => []
  | [], b :: _ => [b]
  | a :: _, [] => [a]
  | a :: _, b :: _ => if a = b then [a] else [a, b]

def wkS (p : Int) (L : List ua0) (i : Int) : Int × List ua0 × Bool := if (p = 2 ∧ fusedS L) ∧ 1 ≤ i ∧ i < (L.length : Int) ∧ lkS L i = true then (p, stS L i, true) else (0, [], false)
end Go.Cn
