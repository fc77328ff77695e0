/- Runs: what joins inside, what does not before, and how many members they hold. -/
import Derived.Test.YtgbijhccgmmkgabGreatDoorTc1
set_option linter.unusedVariables false
noncomputable section
namespace Go.Cn

/-- a run is an interval, joined inside, and not joined to what lies before it -/
def GoodR (mem joi : Nat → Bool) (p : List Int) : Prop := ∃ a m, p = iv a (m + 1) ∧ (∀ j, a < j → j ≤ a + m → joi j = true) ∧ ¬ jnd mem joi a

def cnt (mem : Nat → Bool) : Nat → Nat
  | 0 => 0
  | n + 1 => cnt mem n + (if mem n = true then 1 else 0)
def lens : List (List Int) → Nat
  | [] => 0
  | p :: r => p.length + lens r
structure Run3 (mem joi : Nat → Bool) (n : Nat) (s : RS) : Prop where
  good : ∀ p ∈ outOf s, GoodR mem joi p
  lens : lens (outOf s) = cnt mem n

/-- intervals that follow each other -/
def Cov : Nat → List (List Int) → Nat → Prop
  | lo, [], hi => lo = hi
  | lo, p :: r, hi => ∃ m, p = iv lo (m + 1) ∧ Cov (lo + m + 1) r hi
end Go.Cn
