/- The document's compartments and links. -/
import Derived.Test.YtgbijhccgmmkgabGreatDoorTf13m6
import Derived.Test.YtgbijhccgmmkgabGreatDoorTa1
set_option linter.unusedVariables false
noncomputable section
namespace Go.Cn

def memS (L : List ua0) (i : Nat) : Bool := (ati L (i : Int)).Odd
def joiS (L : List ua0) (i : Nat) : Bool := decide ((ati L ((i - 1 : Nat) : Int)).Exp = IntKind.wrap .i64 ((ati L (i : Int)).Exp - 1))
def partsS (L : List ua0) : List (List Int) := runs (memS L) (joiS L) L.length

def pval : F13.O0 → List (List Int)
  | .x0 => []
  | .x1 g x => g ++ [[x]]
  | .x2 g l => g ++ [l]

/-- the first part that holds i -/
def ptS (P : List (List Int)) (i : Int) : List Int := (P.find? (fun p => p.contains i)).getD []

theorem ue9 (L : List ua0) : (partsS L).length ≤ L.length + 1 ∧ ∀ p ∈ partsS L, p ≠ [] ∧ inR L.length p ∧ p.length ≤ L.length := runs_ok _ _ _

/-- can a sign walk from i to i - 1 -/
def lkS (L : List ua0) (i : Int) : Bool :=
  if IntKind.wrap .i64 ((ati L i).Exp - (ati L (i - 1)).Exp) = 1 then
    if (ati L (i - 1)).Odd = (ati L i).Odd then (if (ati L (i - 1)).Odd = true then !(badS L (ptS (partsS L) i)) else false) else true
  else if IntKind.wrap .i64 ((ati L i).Exp - (ati L (i - 1)).Exp) = 2 then (if (ati L (i - 1)).Odd = true then (ati L i).Odd else false) else false

end Go.Cn
