/-
  No cell of these rows narrows 'for every input' (looked for: loops, veiled, ifaces, maps, wideKeys, modest, calm, conditions, laid).
  DERIVED. THE GIVEN ROWS OF THIS SEAT. 4 by the template 'for every input the law returns true; each argument reads behind the call as it read before'; 0 by the template 'total and deterministic' (their statements: YtfekcbmhiinioaaTotals.lean).
  GIVEN WITH THE SEED: the statements are not yours to turn. If you find one false, say at which input.
  Laid BY PROGRAM, IN A SANDBOX (cutbox-rows.mjs): the forced cells as the released guide's own fill.sh prints them over the translation 69b9df9494d1c659… (all of the seat's roots in one cut). By AI agents, Wed Nov 11 2026. No macro, syntax, notation, axiom, sorry.
-/
import Derived.Test.YtfekcbmhiinioaaChecked
import GoSem.Claim
import GoSem.ClaimJoined
import GoSem.ClaimMapViews
import Derived.JoinedTies
import Derived.KernelRfl
namespace Go.Proofs.Ytfekcbmhiinioaa
/- THE CELL 'sum', in the pinned program and in every row, IS THE sha256 OF THE DUMP (.gsa) THAT YtfekcbmhiinioaaProg.lean LOADS. Nothing in Lean hashes anything: it is a label: what it is worth is what the hold of that sum in a sandbox is worth. -/
noncomputable def Try.pinned : Pinned := { name := "ytfekcbmhiinioaa", sum := "69b9df9494d1c6595f95079acdaf19f40754a0d87396f6ad0558443394cba948", checked := Try.checked }
namespace Rows
def none {H : Type} : Left H := { results := [], args := [] }

/-- 'quadformlaw25.DyadicConstituents': WHATEVER THE INPUT: true; the input reads as it did. -/
def dyadicConstituentsSpec : ChangeSpec := { name := "dyadicConstituents", fn := fun _ => fun
  | [d1, d2, d3] => { results := [.lit (.bool true)], args := [d1, d2, d3] }
  | _ => none }
def dyadicConstituentsRow : OpenClaim := { program := "ytfekcbmhiinioaa", sum := "69b9df9494d1c6595f95079acdaf19f40754a0d87396f6ad0558443394cba948", func := "quadform/quadformlaw25.DyadicConstituents", spec := "dyadicConstituents", unfollowed := true, recurses := true, apart := false }
def DyadicConstituentsSaid : Prop := dyadicConstituentsRow.holds Try.pinned (OpenSpec.ofChange dyadicConstituentsSpec)

/-- ITS FALSE NEIGHBOUR: 'it returns false'. Refute it at one input. -/
def dyadicConstituentsWrong : ChangeSpec := { name := "dyadicConstituents", fn := fun _ => fun
  | [d1, d2, d3] => { results := [.lit (.bool false)], args := [d1, d2, d3] }
  | _ => none }
def DyadicConstituentsWrongFalsely : Prop := dyadicConstituentsRow.holds Try.pinned (OpenSpec.ofChange dyadicConstituentsWrong)

/-- 'quadformlaw25.DyadicBlocks': WHATEVER THE INPUT: true; the input reads as it did. -/
def dyadicBlocksSpec : ChangeSpec := { name := "dyadicBlocks", fn := fun _ => fun
  | [d1, d2, d3, d4] => { results := [.lit (.bool true)], args := [d1, d2, d3, d4] }
  | _ => none }
def dyadicBlocksRow : OpenClaim := { program := "ytfekcbmhiinioaa", sum := "69b9df9494d1c6595f95079acdaf19f40754a0d87396f6ad0558443394cba948", func := "quadform/quadformlaw25.DyadicBlocks", spec := "dyadicBlocks", unfollowed := true, recurses := true, apart := false }
def DyadicBlocksSaid : Prop := dyadicBlocksRow.holds Try.pinned (OpenSpec.ofChange dyadicBlocksSpec)

/-- ITS FALSE NEIGHBOUR: 'it returns false'. Refute it at one input. -/
def dyadicBlocksWrong : ChangeSpec := { name := "dyadicBlocks", fn := fun _ => fun
  | [d1, d2, d3, d4] => { results := [.lit (.bool false)], args := [d1, d2, d3, d4] }
  | _ => none }
def DyadicBlocksWrongFalsely : Prop := dyadicBlocksRow.holds Try.pinned (OpenSpec.ofChange dyadicBlocksWrong)

/-- 'quadformlaw24.JordanConstituents': WHATEVER THE INPUT: true; the input reads as it did. -/
def jordanConstituentsSpec : ChangeSpec := { name := "jordanConstituents", fn := fun _ => fun
  | [d1, d2, d3, d4] => { results := [.lit (.bool true)], args := [d1, d2, d3, d4] }
  | _ => none }
def jordanConstituentsRow : OpenClaim := { program := "ytfekcbmhiinioaa", sum := "69b9df9494d1c6595f95079acdaf19f40754a0d87396f6ad0558443394cba948", func := "quadform/quadformlaw24.JordanConstituents", spec := "jordanConstituents", unfollowed := true, recurses := true, apart := false }
def JordanConstituentsSaid : Prop := jordanConstituentsRow.holds Try.pinned (OpenSpec.ofChange jordanConstituentsSpec)

/-- ITS FALSE NEIGHBOUR: 'it returns false'. Refute it at one input. -/
def jordanConstituentsWrong : ChangeSpec := { name := "jordanConstituents", fn := fun _ => fun
  | [d1, d2, d3, d4] => { results := [.lit (.bool false)], args := [d1, d2, d3, d4] }
  | _ => none }
def JordanConstituentsWrongFalsely : Prop := jordanConstituentsRow.holds Try.pinned (OpenSpec.ofChange jordanConstituentsWrong)

/-- 'quadformlaw24.JordanUnits': WHATEVER THE INPUT: true; the input reads as it did. -/
def jordanUnitsSpec : ChangeSpec := { name := "jordanUnits", fn := fun _ => fun
  | [d1, d2, d3, d4] => { results := [.lit (.bool true)], args := [d1, d2, d3, d4] }
  | _ => none }
def jordanUnitsRow : OpenClaim := { program := "ytfekcbmhiinioaa", sum := "69b9df9494d1c6595f95079acdaf19f40754a0d87396f6ad0558443394cba948", func := "quadform/quadformlaw24.JordanUnits", spec := "jordanUnits", unfollowed := true, recurses := true, apart := false }
def JordanUnitsSaid : Prop := jordanUnitsRow.holds Try.pinned (OpenSpec.ofChange jordanUnitsSpec)

/-- ITS FALSE NEIGHBOUR: 'it returns false'. Refute it at one input. -/
def jordanUnitsWrong : ChangeSpec := { name := "jordanUnits", fn := fun _ => fun
  | [d1, d2, d3, d4] => { results := [.lit (.bool false)], args := [d1, d2, d3, d4] }
  | _ => none }
def JordanUnitsWrongFalsely : Prop := jordanUnitsRow.holds Try.pinned (OpenSpec.ofChange jordanUnitsWrong)

/- THE SECOND FORM. 'bulk': how many values and letters a reading holds, each counted each time it is reached (what is shared counts as often as it is met; a slice's spare places count too). A statement '..UptoSaid' is the law's where the arguments, and the package variables that the reading takes, are together of bulk at most 1048576: NARROWER than '..Said'. Prove '..Said' where nothing that the law and all that it calls make is longer than what came in: it says more and counts as full. Else prove '..UptoSaid'. A law counts once. -/
mutual
def uptoBulk {H : Type} : DataW H → Nat
  | .lit (.string bytes) => bytes.length + 1
  | .lit _ => 1
  | .nil => 1
  | .ptr d => uptoBulk d + 1
  | .slice elems spare => uptoBulkAll elems + uptoBulkAll spare + 1
  | .agg parts => uptoBulkAll parts + 1
  | .iface _ d => uptoBulk d + 1
  | .map entries => uptoBulkEntries entries + 1
  | .held _ => 1
def uptoBulkAll {H : Type} : List (DataW H) → Nat
  | [] => 0
  | d :: r => uptoBulk d + uptoBulkAll r
def uptoBulkEntries {H : Type} : List (Lit × DataW H) → Nat
  | [] => 0
  | x :: r => uptoBulkEntry x + uptoBulkEntries r
def uptoBulkEntry {H : Type} : Lit × DataW H → Nat
  | (.string bytes, d) => bytes.length + uptoBulk d + 1
  | (_, d) => uptoBulk d + 1
 end
def uptoSmall : (H : Type) → List (DataW H) → Bool := fun _ ds => decide (uptoBulkAll ds ≤ 1048576)
def OpenSpec.upto (s : _root_.Go.ChangeSpec) : _root_.Go.OpenSpec := { _root_.Go.OpenSpec.ofChange s with cond := some uptoSmall }

/-- 'quadformlaw25.DyadicConstituents', WHERE WHAT IT READS IS OF BULK AT MOST 1048576: true; the input reads as it did. -/
def dyadicConstituentsUptoRow : OpenClaim := { program := "ytfekcbmhiinioaa", sum := "69b9df9494d1c6595f95079acdaf19f40754a0d87396f6ad0558443394cba948", func := "quadform/quadformlaw25.DyadicConstituents", spec := "dyadicConstituents", unfollowed := true, recurses := true, apart := false, narrowed := true }
def DyadicConstituentsUptoSaid : Prop := dyadicConstituentsUptoRow.holds Try.pinned (OpenSpec.upto dyadicConstituentsSpec)

/-- 'quadformlaw25.DyadicBlocks', WHERE WHAT IT READS IS OF BULK AT MOST 1048576: true; the input reads as it did. -/
def dyadicBlocksUptoRow : OpenClaim := { program := "ytfekcbmhiinioaa", sum := "69b9df9494d1c6595f95079acdaf19f40754a0d87396f6ad0558443394cba948", func := "quadform/quadformlaw25.DyadicBlocks", spec := "dyadicBlocks", unfollowed := true, recurses := true, apart := false, narrowed := true }
def DyadicBlocksUptoSaid : Prop := dyadicBlocksUptoRow.holds Try.pinned (OpenSpec.upto dyadicBlocksSpec)

/-- 'quadformlaw24.JordanConstituents', WHERE WHAT IT READS IS OF BULK AT MOST 1048576: true; the input reads as it did. -/
def jordanConstituentsUptoRow : OpenClaim := { program := "ytfekcbmhiinioaa", sum := "69b9df9494d1c6595f95079acdaf19f40754a0d87396f6ad0558443394cba948", func := "quadform/quadformlaw24.JordanConstituents", spec := "jordanConstituents", unfollowed := true, recurses := true, apart := false, narrowed := true }
def JordanConstituentsUptoSaid : Prop := jordanConstituentsUptoRow.holds Try.pinned (OpenSpec.upto jordanConstituentsSpec)

/-- 'quadformlaw24.JordanUnits', WHERE WHAT IT READS IS OF BULK AT MOST 1048576: true; the input reads as it did. -/
def jordanUnitsUptoRow : OpenClaim := { program := "ytfekcbmhiinioaa", sum := "69b9df9494d1c6595f95079acdaf19f40754a0d87396f6ad0558443394cba948", func := "quadform/quadformlaw24.JordanUnits", spec := "jordanUnits", unfollowed := true, recurses := true, apart := false, narrowed := true }
def JordanUnitsUptoSaid : Prop := jordanUnitsUptoRow.holds Try.pinned (OpenSpec.upto jordanUnitsSpec)

end Rows
end Go.Proofs.Ytfekcbmhiinioaa
