/- Fused symbols, walks, canonical symbols: what the document computes. -/
import Derived.Test.YtgbijhccgmmkgaaGreatDoorTf11m12
import Derived.Test.YtgbijhccgmmkgaaGreatDoorTf11m14
import Derived.Test.YtgbijhccgmmkgaaGreatDoorTf11m8
import Derived.Test.YtgbijhccgmmkgaaGreatDoorTa4l
set_option linter.unusedVariables false
noncomputable section
open Classical
namespace Go.Cn

/-! ### changes in one place -/
def setO (L : List Constituent) (i o : Int) : List Constituent := L.set i.toNat ⟨(ati L i).Exp, (ati L i).Dim, (ati L i).Sign, (ati L i).Odd, o⟩
def setSg (L : List Constituent) (i s : Int) : List Constituent := L.set i.toNat ⟨(ati L i).Exp, (ati L i).Dim, s, (ati L i).Odd, (ati L i).Oddity⟩
def zeroS (L : List Constituent) : List Int → List Constituent
  | [] => L
  | i :: r => zeroS (setO L i 0) r
def fuseF (L0 out : List Constituent) : List (List Int) → List Constituent
  | [] => out
  | p :: r => fuseF L0 (setO (zeroS out p) (p.getD 0 0) (totS L0 p)) r
def fuS (L : List Constituent) : List Constituent := fuseF L L (partsS L)
/-! ### walks -/
def add4 (L : List Constituent) (i : Int) : List Constituent := setO L i (Int.tmod (IntKind.wrap .i64 ((ati L i).Oddity + 4)) 8)
def stS (L : List Constituent) (i : Int) : List Constituent :=
  let L2 := setSg (setSg L i (IntKind.wrap .i64 (0 - (ati L i).Sign))) (i - 1) (IntKind.wrap .i64 (0 - (ati L (i - 1)).Sign))
  let p := ptS (partsS L) (i - 1)
  let q := ptS (partsS L) i
  let L3 := if p ≠ [] then add4 L2 (p.getD 0 0) else L2
  if q ≠ [] then (if p = [] then add4 L3 (q.getD 0 0) else if p.getD 0 0 = q.getD 0 0 then L3 else add4 L3 (q.getD 0 0)) else L3
/-- walks from index i down -/
def cnF : Nat → List Constituent → List Constituent
  | 0, L => L
  | i + 1, L => if (ati L ((i + 1 : Nat) : Int)).Sign = -1 ∧ lkS L ((i + 1 : Nat) : Int) = true then cnF i (stS L ((i + 1 : Nat) : Int)) else cnF i L
def canS (L : List Constituent) : List Constituent := cnF (L.length - 1) (fuS L)
/-! ### any symbol that is made, and a bent one -/
end Go.Cn
