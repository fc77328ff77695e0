/-
  NARROWER THAN 'FOR EVERY INPUT', by the rows' own cells (each row's printed sentence says how): SymbolValid: laid · SymbolExcess: laid · SymbolSum: laid · SymbolSums: laid · SymbolScale: laid · SymbolDuals: laid · SymbolCompare: laid.
  DERIVED. THE GIVEN ROWS OF THIS SEAT. 7 by the template 'for every input the law returns true; each argument reads behind the call as it read before'; 0 by the template 'total and deterministic' (their statements: YteokapmkfoogaaaGreatDoorTotals.lean).
  GIVEN WITH THE SEED: the statements are not yours to turn. If you find one false, say at which input.
  Laid BY PROGRAM, IN A SANDBOX (cutbox-rows.mjs): the forced cells as the released guide's own fill.sh prints them over the translation 02baa74d67f5b59b… (all of the seat's roots in one cut). By AI agents, Wed Nov 11 2026. No macro, syntax, notation, axiom, sorry.
-/
import Derived.Test.YteokapmkfoogaaaGreatDoorChecked
import GoSem.Claim
import GoSem.ClaimJoined
import GoSem.ClaimMapViews
import Derived.JoinedTies
import Derived.KernelRfl
namespace Go.Proofs.YteokapmkfoogaaaGreatDoor
/- THE CELL 'sum', in the pinned program and in every row, IS THE sha256 OF THE DUMP (.gsa) THAT YteokapmkfoogaaaGreatDoorProg.lean LOADS. Nothing in Lean hashes anything: it is a label: what it is worth is what the hold of that sum in a sandbox is worth. -/
noncomputable def Tryz.pinned : Pinned := { name := "yteokapmkfoogaaagreatdoor", sum := "02baa74d67f5b59b3cdcf718c97eae91160713fcf2686364c1e17b60ac6d6fa0", checked := Tryz.checked }
namespace Rows
def none {H : Type} : Left H := { results := [], args := [] }

/- WHAT THE LISTED PACKAGE-LEVEL VARIABLES READ AS WHEN THE CALL BEGINS. Each datum BY PROGRAM (the guide's laid-datum.mjs) off the statement by which the dump's own 'gosem.cut.vars' lays the variable. In a bare row this is a premise. The card (YteokapmkfoogaaaGreatDoorCards.lean) ties it to the program's text. -/
def laid_math_bits_deBruijn32tab {H : Type} : DataW H := .agg [.lit (.int .u8 0), .lit (.int .u8 1), .lit (.int .u8 28), .lit (.int .u8 2), .lit (.int .u8 29), .lit (.int .u8 14), .lit (.int .u8 24), .lit (.int .u8 3), .lit (.int .u8 30), .lit (.int .u8 22), .lit (.int .u8 20), .lit (.int .u8 15), .lit (.int .u8 25), .lit (.int .u8 17), .lit (.int .u8 4), .lit (.int .u8 8), .lit (.int .u8 31), .lit (.int .u8 27), .lit (.int .u8 13), .lit (.int .u8 23), .lit (.int .u8 21), .lit (.int .u8 19), .lit (.int .u8 16), .lit (.int .u8 7), .lit (.int .u8 26), .lit (.int .u8 12), .lit (.int .u8 18), .lit (.int .u8 6), .lit (.int .u8 11), .lit (.int .u8 5), .lit (.int .u8 10), .lit (.int .u8 9)]
def laid_math_bits_deBruijn64tab {H : Type} : DataW H := .agg [.lit (.int .u8 0), .lit (.int .u8 1), .lit (.int .u8 56), .lit (.int .u8 2), .lit (.int .u8 57), .lit (.int .u8 49), .lit (.int .u8 28), .lit (.int .u8 3), .lit (.int .u8 61), .lit (.int .u8 58), .lit (.int .u8 42), .lit (.int .u8 50), .lit (.int .u8 38), .lit (.int .u8 29), .lit (.int .u8 17), .lit (.int .u8 4), .lit (.int .u8 62), .lit (.int .u8 47), .lit (.int .u8 59), .lit (.int .u8 36), .lit (.int .u8 45), .lit (.int .u8 43), .lit (.int .u8 51), .lit (.int .u8 22), .lit (.int .u8 53), .lit (.int .u8 39), .lit (.int .u8 33), .lit (.int .u8 30), .lit (.int .u8 24), .lit (.int .u8 18), .lit (.int .u8 12), .lit (.int .u8 5), .lit (.int .u8 63), .lit (.int .u8 55), .lit (.int .u8 48), .lit (.int .u8 27), .lit (.int .u8 60), .lit (.int .u8 41), .lit (.int .u8 37), .lit (.int .u8 16), .lit (.int .u8 46), .lit (.int .u8 35), .lit (.int .u8 44), .lit (.int .u8 21), .lit (.int .u8 52), .lit (.int .u8 32), .lit (.int .u8 23), .lit (.int .u8 11), .lit (.int .u8 54), .lit (.int .u8 26), .lit (.int .u8 40), .lit (.int .u8 15), .lit (.int .u8 34), .lit (.int .u8 20), .lit (.int .u8 31), .lit (.int .u8 10), .lit (.int .u8 25), .lit (.int .u8 14), .lit (.int .u8 19), .lit (.int .u8 9), .lit (.int .u8 13), .lit (.int .u8 8), .lit (.int .u8 7), .lit (.int .u8 6)]
def laid_internal_strconv_uint64pow10 {H : Type} : DataW H := .agg [.lit (.int .u64 1), .lit (.int .u64 10), .lit (.int .u64 100), .lit (.int .u64 1000), .lit (.int .u64 10000), .lit (.int .u64 100000), .lit (.int .u64 1000000), .lit (.int .u64 10000000), .lit (.int .u64 100000000), .lit (.int .u64 1000000000), .lit (.int .u64 10000000000), .lit (.int .u64 100000000000), .lit (.int .u64 1000000000000), .lit (.int .u64 10000000000000), .lit (.int .u64 100000000000000), .lit (.int .u64 1000000000000000), .lit (.int .u64 10000000000000000), .lit (.int .u64 100000000000000000), .lit (.int .u64 1000000000000000000), .lit (.int .u64 10000000000000000000)]

/-- 'quadformlaw26.SymbolValid': WHATEVER THE INPUT: true; the input reads as it did. -/
def symbolValidSpec : ChangeSpec := { name := "symbolValid", fn := fun _ => fun
  | [d1, d2, d3, d4, d5] => { results := [.lit (.bool true)], args := [d1, d2, d3, d4, d5] }
  | _ => none }
def symbolValidRow : OpenClaim := { program := "yteokapmkfoogaaagreatdoor", sum := "02baa74d67f5b59b3cdcf718c97eae91160713fcf2686364c1e17b60ac6d6fa0", func := "quadform/quadformlaw26.SymbolValid", spec := "symbolValid", unfollowed := true, recurses := true, named := ["internal/strconv.uint64pow10", "math/bits.deBruijn32tab", "math/bits.deBruijn64tab"], apart := false, laid := [("math/bits.deBruijn32tab", laid_math_bits_deBruijn32tab), ("math/bits.deBruijn64tab", laid_math_bits_deBruijn64tab), ("internal/strconv.uint64pow10", laid_internal_strconv_uint64pow10)] }
def SymbolValidSaid : Prop := symbolValidRow.holds Tryz.pinned (OpenSpec.ofChange symbolValidSpec)

/-- ITS FALSE NEIGHBOUR: 'it returns false'. Refute it at one input. -/
def symbolValidWrong : ChangeSpec := { name := "symbolValid", fn := fun _ => fun
  | [d1, d2, d3, d4, d5] => { results := [.lit (.bool false)], args := [d1, d2, d3, d4, d5] }
  | _ => none }
def SymbolValidWrongFalsely : Prop := symbolValidRow.holds Tryz.pinned (OpenSpec.ofChange symbolValidWrong)

/-- 'quadformlaw26.SymbolExcess': WHATEVER THE INPUT: true; the input reads as it did. -/
def symbolExcessSpec : ChangeSpec := { name := "symbolExcess", fn := fun _ => fun
  | [d1, d2, d3] => { results := [.lit (.bool true)], args := [d1, d2, d3] }
  | _ => none }
def symbolExcessRow : OpenClaim := { program := "yteokapmkfoogaaagreatdoor", sum := "02baa74d67f5b59b3cdcf718c97eae91160713fcf2686364c1e17b60ac6d6fa0", func := "quadform/quadformlaw26.SymbolExcess", spec := "symbolExcess", unfollowed := true, recurses := true, named := ["internal/strconv.uint64pow10", "math/bits.deBruijn32tab", "math/bits.deBruijn64tab"], apart := false, laid := [("math/bits.deBruijn32tab", laid_math_bits_deBruijn32tab), ("math/bits.deBruijn64tab", laid_math_bits_deBruijn64tab), ("internal/strconv.uint64pow10", laid_internal_strconv_uint64pow10)] }
def SymbolExcessSaid : Prop := symbolExcessRow.holds Tryz.pinned (OpenSpec.ofChange symbolExcessSpec)

/-- ITS FALSE NEIGHBOUR: 'it returns false'. Refute it at one input. -/
def symbolExcessWrong : ChangeSpec := { name := "symbolExcess", fn := fun _ => fun
  | [d1, d2, d3] => { results := [.lit (.bool false)], args := [d1, d2, d3] }
  | _ => none }
def SymbolExcessWrongFalsely : Prop := symbolExcessRow.holds Tryz.pinned (OpenSpec.ofChange symbolExcessWrong)

/-- 'quadformlaw26.SymbolSum': WHATEVER THE INPUT: true; the input reads as it did. -/
def symbolSumSpec : ChangeSpec := { name := "symbolSum", fn := fun _ => fun
  | [d1, d2, d3, d4, d5, d6] => { results := [.lit (.bool true)], args := [d1, d2, d3, d4, d5, d6] }
  | _ => none }
def symbolSumRow : OpenClaim := { program := "yteokapmkfoogaaagreatdoor", sum := "02baa74d67f5b59b3cdcf718c97eae91160713fcf2686364c1e17b60ac6d6fa0", func := "quadform/quadformlaw26.SymbolSum", spec := "symbolSum", unfollowed := true, recurses := true, named := ["internal/strconv.uint64pow10", "math/bits.deBruijn32tab", "math/bits.deBruijn64tab"], apart := false, laid := [("math/bits.deBruijn32tab", laid_math_bits_deBruijn32tab), ("math/bits.deBruijn64tab", laid_math_bits_deBruijn64tab), ("internal/strconv.uint64pow10", laid_internal_strconv_uint64pow10)] }
def SymbolSumSaid : Prop := symbolSumRow.holds Tryz.pinned (OpenSpec.ofChange symbolSumSpec)

/-- ITS FALSE NEIGHBOUR: 'it returns false'. Refute it at one input. -/
def symbolSumWrong : ChangeSpec := { name := "symbolSum", fn := fun _ => fun
  | [d1, d2, d3, d4, d5, d6] => { results := [.lit (.bool false)], args := [d1, d2, d3, d4, d5, d6] }
  | _ => none }
def SymbolSumWrongFalsely : Prop := symbolSumRow.holds Tryz.pinned (OpenSpec.ofChange symbolSumWrong)

/-- 'quadformlaw26.SymbolSums': WHATEVER THE INPUT: true; the input reads as it did. -/
def symbolSumsSpec : ChangeSpec := { name := "symbolSums", fn := fun _ => fun
  | [d1, d2, d3] => { results := [.lit (.bool true)], args := [d1, d2, d3] }
  | _ => none }
def symbolSumsRow : OpenClaim := { program := "yteokapmkfoogaaagreatdoor", sum := "02baa74d67f5b59b3cdcf718c97eae91160713fcf2686364c1e17b60ac6d6fa0", func := "quadform/quadformlaw26.SymbolSums", spec := "symbolSums", unfollowed := true, recurses := true, named := ["internal/strconv.uint64pow10", "math/bits.deBruijn32tab", "math/bits.deBruijn64tab"], apart := false, laid := [("math/bits.deBruijn32tab", laid_math_bits_deBruijn32tab), ("math/bits.deBruijn64tab", laid_math_bits_deBruijn64tab), ("internal/strconv.uint64pow10", laid_internal_strconv_uint64pow10)] }
def SymbolSumsSaid : Prop := symbolSumsRow.holds Tryz.pinned (OpenSpec.ofChange symbolSumsSpec)

/-- ITS FALSE NEIGHBOUR: 'it returns false'. Refute it at one input. -/
def symbolSumsWrong : ChangeSpec := { name := "symbolSums", fn := fun _ => fun
  | [d1, d2, d3] => { results := [.lit (.bool false)], args := [d1, d2, d3] }
  | _ => none }
def SymbolSumsWrongFalsely : Prop := symbolSumsRow.holds Tryz.pinned (OpenSpec.ofChange symbolSumsWrong)

/-- 'quadformlaw26.SymbolScale': WHATEVER THE INPUT: true; the input reads as it did. -/
def symbolScaleSpec : ChangeSpec := { name := "symbolScale", fn := fun _ => fun
  | [d1, d2, d3, d4, d5] => { results := [.lit (.bool true)], args := [d1, d2, d3, d4, d5] }
  | _ => none }
def symbolScaleRow : OpenClaim := { program := "yteokapmkfoogaaagreatdoor", sum := "02baa74d67f5b59b3cdcf718c97eae91160713fcf2686364c1e17b60ac6d6fa0", func := "quadform/quadformlaw26.SymbolScale", spec := "symbolScale", unfollowed := true, recurses := true, named := ["internal/strconv.uint64pow10", "math/bits.deBruijn32tab", "math/bits.deBruijn64tab"], apart := false, laid := [("math/bits.deBruijn32tab", laid_math_bits_deBruijn32tab), ("math/bits.deBruijn64tab", laid_math_bits_deBruijn64tab), ("internal/strconv.uint64pow10", laid_internal_strconv_uint64pow10)] }
def SymbolScaleSaid : Prop := symbolScaleRow.holds Tryz.pinned (OpenSpec.ofChange symbolScaleSpec)

/-- ITS FALSE NEIGHBOUR: 'it returns false'. Refute it at one input. -/
def symbolScaleWrong : ChangeSpec := { name := "symbolScale", fn := fun _ => fun
  | [d1, d2, d3, d4, d5] => { results := [.lit (.bool false)], args := [d1, d2, d3, d4, d5] }
  | _ => none }
def SymbolScaleWrongFalsely : Prop := symbolScaleRow.holds Tryz.pinned (OpenSpec.ofChange symbolScaleWrong)

/-- 'quadformlaw26.SymbolDuals': WHATEVER THE INPUT: true; the input reads as it did. -/
def symbolDualsSpec : ChangeSpec := { name := "symbolDuals", fn := fun _ => fun
  | [d1, d2] => { results := [.lit (.bool true)], args := [d1, d2] }
  | _ => none }
def symbolDualsRow : OpenClaim := { program := "yteokapmkfoogaaagreatdoor", sum := "02baa74d67f5b59b3cdcf718c97eae91160713fcf2686364c1e17b60ac6d6fa0", func := "quadform/quadformlaw26.SymbolDuals", spec := "symbolDuals", unfollowed := true, recurses := true, named := ["internal/strconv.uint64pow10", "math/bits.deBruijn32tab", "math/bits.deBruijn64tab"], apart := false, laid := [("math/bits.deBruijn32tab", laid_math_bits_deBruijn32tab), ("math/bits.deBruijn64tab", laid_math_bits_deBruijn64tab), ("internal/strconv.uint64pow10", laid_internal_strconv_uint64pow10)] }
def SymbolDualsSaid : Prop := symbolDualsRow.holds Tryz.pinned (OpenSpec.ofChange symbolDualsSpec)

/-- ITS FALSE NEIGHBOUR: 'it returns false'. Refute it at one input. -/
def symbolDualsWrong : ChangeSpec := { name := "symbolDuals", fn := fun _ => fun
  | [d1, d2] => { results := [.lit (.bool false)], args := [d1, d2] }
  | _ => none }
def SymbolDualsWrongFalsely : Prop := symbolDualsRow.holds Tryz.pinned (OpenSpec.ofChange symbolDualsWrong)

/-- 'quadformlaw26.SymbolCompare': WHATEVER THE INPUT: true; the input reads as it did. -/
def symbolCompareSpec : ChangeSpec := { name := "symbolCompare", fn := fun _ => fun
  | [d1, d2, d3, d4, d5, d6, d7, d8, d9] => { results := [.lit (.bool true)], args := [d1, d2, d3, d4, d5, d6, d7, d8, d9] }
  | _ => none }
def symbolCompareRow : OpenClaim := { program := "yteokapmkfoogaaagreatdoor", sum := "02baa74d67f5b59b3cdcf718c97eae91160713fcf2686364c1e17b60ac6d6fa0", func := "quadform/quadformlaw26.SymbolCompare", spec := "symbolCompare", unfollowed := true, recurses := true, named := ["internal/strconv.uint64pow10", "math/bits.deBruijn32tab", "math/bits.deBruijn64tab"], apart := false, laid := [("math/bits.deBruijn32tab", laid_math_bits_deBruijn32tab), ("math/bits.deBruijn64tab", laid_math_bits_deBruijn64tab), ("internal/strconv.uint64pow10", laid_internal_strconv_uint64pow10)] }
def SymbolCompareSaid : Prop := symbolCompareRow.holds Tryz.pinned (OpenSpec.ofChange symbolCompareSpec)

/-- ITS FALSE NEIGHBOUR: 'it returns false'. Refute it at one input. -/
def symbolCompareWrong : ChangeSpec := { name := "symbolCompare", fn := fun _ => fun
  | [d1, d2, d3, d4, d5, d6, d7, d8, d9] => { results := [.lit (.bool false)], args := [d1, d2, d3, d4, d5, d6, d7, d8, d9] }
  | _ => none }
def SymbolCompareWrongFalsely : Prop := symbolCompareRow.holds Tryz.pinned (OpenSpec.ofChange symbolCompareWrong)

/- THE SECOND FORM. 'bulk': how many values and letters a reading holds, each counted each time it is reached (what is shared counts as often as it is met; a slice's spare places count too). A statement '..UptoSaid' is the law's where the arguments, and the package variables that the reading takes, are together of bulk at most 1048576: NARROWER than '..Said'. Prove '..Said' where nothing that the law and all that it calls make is longer than what came in: it says more and counts as full. Else prove '..UptoSaid'. A law counts once. -/
mutual
def uptoBulk {H : Type} : DataW H → Nat
  | .lit (.string bytes) => bytes.length + 1
  | .lit _ => 1
  | .nil => 1
  | .ptr d => uptoBulk d + 1
  | .slice elems spare => uptoBulkAll elems + uptoBulkAll spare + 1
  | .agg parts => uptoBulkAll parts + 1
  | .iface _ d => uptoBulk d + 1
  | .map entries => uptoBulkEntries entries + 1
  | .held _ => 1
def uptoBulkAll {H : Type} : List (DataW H) → Nat
  | [] => 0
  | d :: r => uptoBulk d + uptoBulkAll r
def uptoBulkEntries {H : Type} : List (Lit × DataW H) → Nat
  | [] => 0
  | x :: r => uptoBulkEntry x + uptoBulkEntries r
def uptoBulkEntry {H : Type} : Lit × DataW H → Nat
  | (.string bytes, d) => bytes.length + uptoBulk d + 1
  | (_, d) => uptoBulk d + 1
 end
def uptoSmall : (H : Type) → List (DataW H) → Bool := fun _ ds => decide (uptoBulkAll ds ≤ 1048576)
def OpenSpec.upto (s : _root_.Go.ChangeSpec) : _root_.Go.OpenSpec := { _root_.Go.OpenSpec.ofChange s with cond := some uptoSmall }

/-- 'quadformlaw26.SymbolValid', WHERE WHAT IT READS IS OF BULK AT MOST 1048576: true; the input reads as it did. -/
def symbolValidUptoRow : OpenClaim := { program := "yteokapmkfoogaaagreatdoor", sum := "02baa74d67f5b59b3cdcf718c97eae91160713fcf2686364c1e17b60ac6d6fa0", func := "quadform/quadformlaw26.SymbolValid", spec := "symbolValid", unfollowed := true, recurses := true, named := ["internal/strconv.uint64pow10", "math/bits.deBruijn32tab", "math/bits.deBruijn64tab"], apart := false, laid := [("math/bits.deBruijn32tab", laid_math_bits_deBruijn32tab), ("math/bits.deBruijn64tab", laid_math_bits_deBruijn64tab), ("internal/strconv.uint64pow10", laid_internal_strconv_uint64pow10)], narrowed := true }
def SymbolValidUptoSaid : Prop := symbolValidUptoRow.holds Tryz.pinned (OpenSpec.upto symbolValidSpec)

/-- 'quadformlaw26.SymbolExcess', WHERE WHAT IT READS IS OF BULK AT MOST 1048576: true; the input reads as it did. -/
def symbolExcessUptoRow : OpenClaim := { program := "yteokapmkfoogaaagreatdoor", sum := "02baa74d67f5b59b3cdcf718c97eae91160713fcf2686364c1e17b60ac6d6fa0", func := "quadform/quadformlaw26.SymbolExcess", spec := "symbolExcess", unfollowed := true, recurses := true, named := ["internal/strconv.uint64pow10", "math/bits.deBruijn32tab", "math/bits.deBruijn64tab"], apart := false, laid := [("math/bits.deBruijn32tab", laid_math_bits_deBruijn32tab), ("math/bits.deBruijn64tab", laid_math_bits_deBruijn64tab), ("internal/strconv.uint64pow10", laid_internal_strconv_uint64pow10)], narrowed := true }
def SymbolExcessUptoSaid : Prop := symbolExcessUptoRow.holds Tryz.pinned (OpenSpec.upto symbolExcessSpec)

/-- 'quadformlaw26.SymbolSum', WHERE WHAT IT READS IS OF BULK AT MOST 1048576: true; the input reads as it did. -/
def symbolSumUptoRow : OpenClaim := { program := "yteokapmkfoogaaagreatdoor", sum := "02baa74d67f5b59b3cdcf718c97eae91160713fcf2686364c1e17b60ac6d6fa0", func := "quadform/quadformlaw26.SymbolSum", spec := "symbolSum", unfollowed := true, recurses := true, named := ["internal/strconv.uint64pow10", "math/bits.deBruijn32tab", "math/bits.deBruijn64tab"], apart := false, laid := [("math/bits.deBruijn32tab", laid_math_bits_deBruijn32tab), ("math/bits.deBruijn64tab", laid_math_bits_deBruijn64tab), ("internal/strconv.uint64pow10", laid_internal_strconv_uint64pow10)], narrowed := true }
def SymbolSumUptoSaid : Prop := symbolSumUptoRow.holds Tryz.pinned (OpenSpec.upto symbolSumSpec)

/-- 'quadformlaw26.SymbolSums', WHERE WHAT IT READS IS OF BULK AT MOST 1048576: true; the input reads as it did. -/
def symbolSumsUptoRow : OpenClaim := { program := "yteokapmkfoogaaagreatdoor", sum := "02baa74d67f5b59b3cdcf718c97eae91160713fcf2686364c1e17b60ac6d6fa0", func := "quadform/quadformlaw26.SymbolSums", spec := "symbolSums", unfollowed := true, recurses := true, named := ["internal/strconv.uint64pow10", "math/bits.deBruijn32tab", "math/bits.deBruijn64tab"], apart := false, laid := [("math/bits.deBruijn32tab", laid_math_bits_deBruijn32tab), ("math/bits.deBruijn64tab", laid_math_bits_deBruijn64tab), ("internal/strconv.uint64pow10", laid_internal_strconv_uint64pow10)], narrowed := true }
def SymbolSumsUptoSaid : Prop := symbolSumsUptoRow.holds Tryz.pinned (OpenSpec.upto symbolSumsSpec)

/-- 'quadformlaw26.SymbolScale', WHERE WHAT IT READS IS OF BULK AT MOST 1048576: true; the input reads as it did. -/
def symbolScaleUptoRow : OpenClaim := { program := "yteokapmkfoogaaagreatdoor", sum := "02baa74d67f5b59b3cdcf718c97eae91160713fcf2686364c1e17b60ac6d6fa0", func := "quadform/quadformlaw26.SymbolScale", spec := "symbolScale", unfollowed := true, recurses := true, named := ["internal/strconv.uint64pow10", "math/bits.deBruijn32tab", "math/bits.deBruijn64tab"], apart := false, laid := [("math/bits.deBruijn32tab", laid_math_bits_deBruijn32tab), ("math/bits.deBruijn64tab", laid_math_bits_deBruijn64tab), ("internal/strconv.uint64pow10", laid_internal_strconv_uint64pow10)], narrowed := true }
def SymbolScaleUptoSaid : Prop := symbolScaleUptoRow.holds Tryz.pinned (OpenSpec.upto symbolScaleSpec)

/-- 'quadformlaw26.SymbolDuals', WHERE WHAT IT READS IS OF BULK AT MOST 1048576: true; the input reads as it did. -/
def symbolDualsUptoRow : OpenClaim := { program := "yteokapmkfoogaaagreatdoor", sum := "02baa74d67f5b59b3cdcf718c97eae91160713fcf2686364c1e17b60ac6d6fa0", func := "quadform/quadformlaw26.SymbolDuals", spec := "symbolDuals", unfollowed := true, recurses := true, named := ["internal/strconv.uint64pow10", "math/bits.deBruijn32tab", "math/bits.deBruijn64tab"], apart := false, laid := [("math/bits.deBruijn32tab", laid_math_bits_deBruijn32tab), ("math/bits.deBruijn64tab", laid_math_bits_deBruijn64tab), ("internal/strconv.uint64pow10", laid_internal_strconv_uint64pow10)], narrowed := true }
def SymbolDualsUptoSaid : Prop := symbolDualsUptoRow.holds Tryz.pinned (OpenSpec.upto symbolDualsSpec)

/-- 'quadformlaw26.SymbolCompare', WHERE WHAT IT READS IS OF BULK AT MOST 1048576: true; the input reads as it did. -/
def symbolCompareUptoRow : OpenClaim := { program := "yteokapmkfoogaaagreatdoor", sum := "02baa74d67f5b59b3cdcf718c97eae91160713fcf2686364c1e17b60ac6d6fa0", func := "quadform/quadformlaw26.SymbolCompare", spec := "symbolCompare", unfollowed := true, recurses := true, named := ["internal/strconv.uint64pow10", "math/bits.deBruijn32tab", "math/bits.deBruijn64tab"], apart := false, laid := [("math/bits.deBruijn32tab", laid_math_bits_deBruijn32tab), ("math/bits.deBruijn64tab", laid_math_bits_deBruijn64tab), ("internal/strconv.uint64pow10", laid_internal_strconv_uint64pow10)], narrowed := true }
def SymbolCompareUptoSaid : Prop := symbolCompareUptoRow.holds Tryz.pinned (OpenSpec.upto symbolCompareSpec)

end Rows
end Go.Proofs.YteokapmkfoogaaaGreatDoor
