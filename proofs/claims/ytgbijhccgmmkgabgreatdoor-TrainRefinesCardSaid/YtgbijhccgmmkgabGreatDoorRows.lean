/-
  NARROWER THAN 'FOR EVERY INPUT', by the rows' own cells (each row's printed sentence says how): TrainCanonical: laid · TrainCanonicalIs: laid · TrainOrbit: laid · TrainRefine: laid · TrainRefines: laid · TrainShapes: laid · TrainSums: laid · TrainFormat: laid · TrainParse: laid.
  DERIVED. THE GIVEN ROWS OF THIS SEAT. 9 by the template 'for every input the law returns true; each argument reads behind the call as it read before'; 0 by the template 'total and deterministic' (their statements: YtgbijhccgmmkgabGreatDoorTotals.lean).
  GIVEN WITH THE SEED: the statements are not yours to turn. If you find one false, say at which input.
  Laid BY PROGRAM, IN A SANDBOX (cutbox-rows.mjs): the forced cells as the released guide's own fill.sh prints them over the translation 19a1fc8467e9149c… (all of the seat's roots in one cut). By AI agents, Wed Nov 11 2026. No macro, syntax, notation, axiom, sorry.
-/
import Derived.Test.YtgbijhccgmmkgabGreatDoorChecked
import GoSem.Claim
import GoSem.ClaimJoined
import GoSem.ClaimMapViews
import Derived.JoinedTies
import Derived.KernelRfl
namespace Go.Proofs.YtgbijhccgmmkgabGreatDoor
/- THE CELL 'sum', in the pinned program and in every row, IS THE sha256 OF THE DUMP (.gsa) THAT YtgbijhccgmmkgabGreatDoorProg.lean LOADS. Nothing in Lean hashes anything: it is a label: what it is worth is what the hold of that sum in a sandbox is worth. -/
noncomputable def Tryz.pinned : Pinned := { name := "ytgbijhccgmmkgabgreatdoor", sum := "19a1fc8467e9149c9f81ade9c998aa6e37527f77f6a77a9d9576e05e8e43a454", checked := Tryz.checked }
namespace Rows
def none {H : Type} : Left H := { results := [], args := [] }

/- WHAT THE LISTED PACKAGE-LEVEL VARIABLES READ AS WHEN THE CALL BEGINS. Each datum BY PROGRAM (the guide's laid-datum.mjs) off the statement by which the dump's own 'gosem.cut.vars' lays the variable. In a bare row this is a premise. The card (YtgbijhccgmmkgabGreatDoorCards.lean) ties it to the program's text. -/
def laid_math_bits_deBruijn32tab {H : Type} : DataW H := .agg [.lit (.int .u8 0), .lit (.int .u8 1), .lit (.int .u8 28), .lit (.int .u8 2), .lit (.int .u8 29), .lit (.int .u8 14), .lit (.int .u8 24), .lit (.int .u8 3), .lit (.int .u8 30), .lit (.int .u8 22), .lit (.int .u8 20), .lit (.int .u8 15), .lit (.int .u8 25), .lit (.int .u8 17), .lit (.int .u8 4), .lit (.int .u8 8), .lit (.int .u8 31), .lit (.int .u8 27), .lit (.int .u8 13), .lit (.int .u8 23), .lit (.int .u8 21), .lit (.int .u8 19), .lit (.int .u8 16), .lit (.int .u8 7), .lit (.int .u8 26), .lit (.int .u8 12), .lit (.int .u8 18), .lit (.int .u8 6), .lit (.int .u8 11), .lit (.int .u8 5), .lit (.int .u8 10), .lit (.int .u8 9)]
def laid_math_bits_deBruijn64tab {H : Type} : DataW H := .agg [.lit (.int .u8 0), .lit (.int .u8 1), .lit (.int .u8 56), .lit (.int .u8 2), .lit (.int .u8 57), .lit (.int .u8 49), .lit (.int .u8 28), .lit (.int .u8 3), .lit (.int .u8 61), .lit (.int .u8 58), .lit (.int .u8 42), .lit (.int .u8 50), .lit (.int .u8 38), .lit (.int .u8 29), .lit (.int .u8 17), .lit (.int .u8 4), .lit (.int .u8 62), .lit (.int .u8 47), .lit (.int .u8 59), .lit (.int .u8 36), .lit (.int .u8 45), .lit (.int .u8 43), .lit (.int .u8 51), .lit (.int .u8 22), .lit (.int .u8 53), .lit (.int .u8 39), .lit (.int .u8 33), .lit (.int .u8 30), .lit (.int .u8 24), .lit (.int .u8 18), .lit (.int .u8 12), .lit (.int .u8 5), .lit (.int .u8 63), .lit (.int .u8 55), .lit (.int .u8 48), .lit (.int .u8 27), .lit (.int .u8 60), .lit (.int .u8 41), .lit (.int .u8 37), .lit (.int .u8 16), .lit (.int .u8 46), .lit (.int .u8 35), .lit (.int .u8 44), .lit (.int .u8 21), .lit (.int .u8 52), .lit (.int .u8 32), .lit (.int .u8 23), .lit (.int .u8 11), .lit (.int .u8 54), .lit (.int .u8 26), .lit (.int .u8 40), .lit (.int .u8 15), .lit (.int .u8 34), .lit (.int .u8 20), .lit (.int .u8 31), .lit (.int .u8 10), .lit (.int .u8 25), .lit (.int .u8 14), .lit (.int .u8 19), .lit (.int .u8 9), .lit (.int .u8 13), .lit (.int .u8 8), .lit (.int .u8 7), .lit (.int .u8 6)]
def laid_internal_strconv_uint64pow10 {H : Type} : DataW H := .agg [.lit (.int .u64 1), .lit (.int .u64 10), .lit (.int .u64 100), .lit (.int .u64 1000), .lit (.int .u64 10000), .lit (.int .u64 100000), .lit (.int .u64 1000000), .lit (.int .u64 10000000), .lit (.int .u64 100000000), .lit (.int .u64 1000000000), .lit (.int .u64 10000000000), .lit (.int .u64 100000000000), .lit (.int .u64 1000000000000), .lit (.int .u64 10000000000000), .lit (.int .u64 100000000000000), .lit (.int .u64 1000000000000000), .lit (.int .u64 10000000000000000), .lit (.int .u64 100000000000000000), .lit (.int .u64 1000000000000000000), .lit (.int .u64 10000000000000000000)]

/-- 'quadformlaw27.TrainCanonical': WHATEVER THE INPUT: true; the input reads as it did. -/
def trainCanonicalSpec : ChangeSpec := { name := "trainCanonical", fn := fun _ => fun
  | [d1, d2, d3, d4, d5, d6] => { results := [.lit (.bool true)], args := [d1, d2, d3, d4, d5, d6] }
  | _ => none }
def trainCanonicalRow : OpenClaim := { program := "ytgbijhccgmmkgabgreatdoor", sum := "19a1fc8467e9149c9f81ade9c998aa6e37527f77f6a77a9d9576e05e8e43a454", func := "quadform/quadformlaw27.TrainCanonical", spec := "trainCanonical", unfollowed := true, recurses := true, named := ["internal/strconv.uint64pow10", "math/bits.deBruijn32tab", "math/bits.deBruijn64tab"], apart := false, laid := [("math/bits.deBruijn32tab", laid_math_bits_deBruijn32tab), ("math/bits.deBruijn64tab", laid_math_bits_deBruijn64tab), ("internal/strconv.uint64pow10", laid_internal_strconv_uint64pow10)] }
def TrainCanonicalSaid : Prop := trainCanonicalRow.holds Tryz.pinned (OpenSpec.ofChange trainCanonicalSpec)

/-- ITS FALSE NEIGHBOUR: 'it returns false'. Refute it at one input. -/
def trainCanonicalWrong : ChangeSpec := { name := "trainCanonical", fn := fun _ => fun
  | [d1, d2, d3, d4, d5, d6] => { results := [.lit (.bool false)], args := [d1, d2, d3, d4, d5, d6] }
  | _ => none }
def TrainCanonicalWrongFalsely : Prop := trainCanonicalRow.holds Tryz.pinned (OpenSpec.ofChange trainCanonicalWrong)

/-- 'quadformlaw27.TrainCanonicalIs': WHATEVER THE INPUT: true; the input reads as it did. -/
def trainCanonicalIsSpec : ChangeSpec := { name := "trainCanonicalIs", fn := fun _ => fun
  | [d] => { results := [.lit (.bool true)], args := [d] }
  | _ => none }
def trainCanonicalIsRow : OpenClaim := { program := "ytgbijhccgmmkgabgreatdoor", sum := "19a1fc8467e9149c9f81ade9c998aa6e37527f77f6a77a9d9576e05e8e43a454", func := "quadform/quadformlaw27.TrainCanonicalIs", spec := "trainCanonicalIs", unfollowed := true, recurses := true, named := ["internal/strconv.uint64pow10", "math/bits.deBruijn32tab", "math/bits.deBruijn64tab"], apart := false, laid := [("math/bits.deBruijn32tab", laid_math_bits_deBruijn32tab), ("math/bits.deBruijn64tab", laid_math_bits_deBruijn64tab), ("internal/strconv.uint64pow10", laid_internal_strconv_uint64pow10)] }
def TrainCanonicalIsSaid : Prop := trainCanonicalIsRow.holds Tryz.pinned (OpenSpec.ofChange trainCanonicalIsSpec)

/-- ITS FALSE NEIGHBOUR: 'it returns false'. Refute it at one input. -/
def trainCanonicalIsWrong : ChangeSpec := { name := "trainCanonicalIs", fn := fun _ => fun
  | [d] => { results := [.lit (.bool false)], args := [d] }
  | _ => none }
def TrainCanonicalIsWrongFalsely : Prop := trainCanonicalIsRow.holds Tryz.pinned (OpenSpec.ofChange trainCanonicalIsWrong)

/-- 'quadformlaw27.TrainOrbit': WHATEVER THE INPUT: true; the input reads as it did. -/
def trainOrbitSpec : ChangeSpec := { name := "trainOrbit", fn := fun _ => fun
  | [d1, d2] => { results := [.lit (.bool true)], args := [d1, d2] }
  | _ => none }
def trainOrbitRow : OpenClaim := { program := "ytgbijhccgmmkgabgreatdoor", sum := "19a1fc8467e9149c9f81ade9c998aa6e37527f77f6a77a9d9576e05e8e43a454", func := "quadform/quadformlaw27.TrainOrbit", spec := "trainOrbit", unfollowed := true, recurses := true, named := ["internal/strconv.uint64pow10", "math/bits.deBruijn32tab", "math/bits.deBruijn64tab"], apart := false, laid := [("math/bits.deBruijn32tab", laid_math_bits_deBruijn32tab), ("math/bits.deBruijn64tab", laid_math_bits_deBruijn64tab), ("internal/strconv.uint64pow10", laid_internal_strconv_uint64pow10)] }
def TrainOrbitSaid : Prop := trainOrbitRow.holds Tryz.pinned (OpenSpec.ofChange trainOrbitSpec)

/-- ITS FALSE NEIGHBOUR: 'it returns false'. Refute it at one input. -/
def trainOrbitWrong : ChangeSpec := { name := "trainOrbit", fn := fun _ => fun
  | [d1, d2] => { results := [.lit (.bool false)], args := [d1, d2] }
  | _ => none }
def TrainOrbitWrongFalsely : Prop := trainOrbitRow.holds Tryz.pinned (OpenSpec.ofChange trainOrbitWrong)

/-- 'quadformlaw27.TrainRefine': WHATEVER THE INPUT: true; the input reads as it did. -/
def trainRefineSpec : ChangeSpec := { name := "trainRefine", fn := fun _ => fun
  | [d1, d2, d3, d4, d5, d6] => { results := [.lit (.bool true)], args := [d1, d2, d3, d4, d5, d6] }
  | _ => none }
def trainRefineRow : OpenClaim := { program := "ytgbijhccgmmkgabgreatdoor", sum := "19a1fc8467e9149c9f81ade9c998aa6e37527f77f6a77a9d9576e05e8e43a454", func := "quadform/quadformlaw27.TrainRefine", spec := "trainRefine", unfollowed := true, recurses := true, named := ["internal/strconv.uint64pow10", "math/bits.deBruijn32tab", "math/bits.deBruijn64tab"], apart := false, laid := [("math/bits.deBruijn32tab", laid_math_bits_deBruijn32tab), ("math/bits.deBruijn64tab", laid_math_bits_deBruijn64tab), ("internal/strconv.uint64pow10", laid_internal_strconv_uint64pow10)] }
def TrainRefineSaid : Prop := trainRefineRow.holds Tryz.pinned (OpenSpec.ofChange trainRefineSpec)

/-- ITS FALSE NEIGHBOUR: 'it returns false'. Refute it at one input. -/
def trainRefineWrong : ChangeSpec := { name := "trainRefine", fn := fun _ => fun
  | [d1, d2, d3, d4, d5, d6] => { results := [.lit (.bool false)], args := [d1, d2, d3, d4, d5, d6] }
  | _ => none }
def TrainRefineWrongFalsely : Prop := trainRefineRow.holds Tryz.pinned (OpenSpec.ofChange trainRefineWrong)

/-- 'quadformlaw27.TrainRefines': WHATEVER THE INPUT: true; the input reads as it did. -/
def trainRefinesSpec : ChangeSpec := { name := "trainRefines", fn := fun _ => fun
  | [d] => { results := [.lit (.bool true)], args := [d] }
  | _ => none }
def trainRefinesRow : OpenClaim := { program := "ytgbijhccgmmkgabgreatdoor", sum := "19a1fc8467e9149c9f81ade9c998aa6e37527f77f6a77a9d9576e05e8e43a454", func := "quadform/quadformlaw27.TrainRefines", spec := "trainRefines", unfollowed := true, recurses := true, named := ["internal/strconv.uint64pow10", "math/bits.deBruijn32tab", "math/bits.deBruijn64tab"], apart := false, laid := [("math/bits.deBruijn32tab", laid_math_bits_deBruijn32tab), ("math/bits.deBruijn64tab", laid_math_bits_deBruijn64tab), ("internal/strconv.uint64pow10", laid_internal_strconv_uint64pow10)] }
def TrainRefinesSaid : Prop := trainRefinesRow.holds Tryz.pinned (OpenSpec.ofChange trainRefinesSpec)

/-- ITS FALSE NEIGHBOUR: 'it returns false'. Refute it at one input. -/
def trainRefinesWrong : ChangeSpec := { name := "trainRefines", fn := fun _ => fun
  | [d] => { results := [.lit (.bool false)], args := [d] }
  | _ => none }
def TrainRefinesWrongFalsely : Prop := trainRefinesRow.holds Tryz.pinned (OpenSpec.ofChange trainRefinesWrong)

/-- 'quadformlaw27.TrainShapes': WHATEVER THE INPUT: true; the input reads as it did. -/
def trainShapesSpec : ChangeSpec := { name := "trainShapes", fn := fun _ => fun
  | [d1, d2, d3, d4, d5, d6] => { results := [.lit (.bool true)], args := [d1, d2, d3, d4, d5, d6] }
  | _ => none }
def trainShapesRow : OpenClaim := { program := "ytgbijhccgmmkgabgreatdoor", sum := "19a1fc8467e9149c9f81ade9c998aa6e37527f77f6a77a9d9576e05e8e43a454", func := "quadform/quadformlaw27.TrainShapes", spec := "trainShapes", unfollowed := true, recurses := true, named := ["internal/strconv.uint64pow10", "math/bits.deBruijn32tab", "math/bits.deBruijn64tab"], apart := false, laid := [("math/bits.deBruijn32tab", laid_math_bits_deBruijn32tab), ("math/bits.deBruijn64tab", laid_math_bits_deBruijn64tab), ("internal/strconv.uint64pow10", laid_internal_strconv_uint64pow10)] }
def TrainShapesSaid : Prop := trainShapesRow.holds Tryz.pinned (OpenSpec.ofChange trainShapesSpec)

/-- ITS FALSE NEIGHBOUR: 'it returns false'. Refute it at one input. -/
def trainShapesWrong : ChangeSpec := { name := "trainShapes", fn := fun _ => fun
  | [d1, d2, d3, d4, d5, d6] => { results := [.lit (.bool false)], args := [d1, d2, d3, d4, d5, d6] }
  | _ => none }
def TrainShapesWrongFalsely : Prop := trainShapesRow.holds Tryz.pinned (OpenSpec.ofChange trainShapesWrong)

/-- 'quadformlaw27.TrainSums': WHATEVER THE INPUT: true; the input reads as it did. -/
def trainSumsSpec : ChangeSpec := { name := "trainSums", fn := fun _ => fun
  | [d1, d2] => { results := [.lit (.bool true)], args := [d1, d2] }
  | _ => none }
def trainSumsRow : OpenClaim := { program := "ytgbijhccgmmkgabgreatdoor", sum := "19a1fc8467e9149c9f81ade9c998aa6e37527f77f6a77a9d9576e05e8e43a454", func := "quadform/quadformlaw27.TrainSums", spec := "trainSums", unfollowed := true, recurses := true, named := ["internal/strconv.uint64pow10", "math/bits.deBruijn32tab", "math/bits.deBruijn64tab"], apart := false, laid := [("math/bits.deBruijn32tab", laid_math_bits_deBruijn32tab), ("math/bits.deBruijn64tab", laid_math_bits_deBruijn64tab), ("internal/strconv.uint64pow10", laid_internal_strconv_uint64pow10)] }
def TrainSumsSaid : Prop := trainSumsRow.holds Tryz.pinned (OpenSpec.ofChange trainSumsSpec)

/-- ITS FALSE NEIGHBOUR: 'it returns false'. Refute it at one input. -/
def trainSumsWrong : ChangeSpec := { name := "trainSums", fn := fun _ => fun
  | [d1, d2] => { results := [.lit (.bool false)], args := [d1, d2] }
  | _ => none }
def TrainSumsWrongFalsely : Prop := trainSumsRow.holds Tryz.pinned (OpenSpec.ofChange trainSumsWrong)

/-- 'quadformlaw27.TrainFormat': WHATEVER THE INPUT: true; the input reads as it did. -/
def trainFormatSpec : ChangeSpec := { name := "trainFormat", fn := fun _ => fun
  | [d1, d2, d3, d4, d5, d6] => { results := [.lit (.bool true)], args := [d1, d2, d3, d4, d5, d6] }
  | _ => none }
def trainFormatRow : OpenClaim := { program := "ytgbijhccgmmkgabgreatdoor", sum := "19a1fc8467e9149c9f81ade9c998aa6e37527f77f6a77a9d9576e05e8e43a454", func := "quadform/quadformlaw27.TrainFormat", spec := "trainFormat", unfollowed := true, recurses := true, named := ["internal/strconv.uint64pow10", "math/bits.deBruijn32tab", "math/bits.deBruijn64tab"], apart := false, laid := [("math/bits.deBruijn32tab", laid_math_bits_deBruijn32tab), ("math/bits.deBruijn64tab", laid_math_bits_deBruijn64tab), ("internal/strconv.uint64pow10", laid_internal_strconv_uint64pow10)] }
def TrainFormatSaid : Prop := trainFormatRow.holds Tryz.pinned (OpenSpec.ofChange trainFormatSpec)

/-- ITS FALSE NEIGHBOUR: 'it returns false'. Refute it at one input. -/
def trainFormatWrong : ChangeSpec := { name := "trainFormat", fn := fun _ => fun
  | [d1, d2, d3, d4, d5, d6] => { results := [.lit (.bool false)], args := [d1, d2, d3, d4, d5, d6] }
  | _ => none }
def TrainFormatWrongFalsely : Prop := trainFormatRow.holds Tryz.pinned (OpenSpec.ofChange trainFormatWrong)

/-- 'quadformlaw27.TrainParse': WHATEVER THE INPUT: true; the input reads as it did. -/
def trainParseSpec : ChangeSpec := { name := "trainParse", fn := fun _ => fun
  | [d1, d2, d3, d4, d5, d6] => { results := [.lit (.bool true)], args := [d1, d2, d3, d4, d5, d6] }
  | _ => none }
def trainParseRow : OpenClaim := { program := "ytgbijhccgmmkgabgreatdoor", sum := "19a1fc8467e9149c9f81ade9c998aa6e37527f77f6a77a9d9576e05e8e43a454", func := "quadform/quadformlaw27.TrainParse", spec := "trainParse", unfollowed := true, recurses := true, named := ["internal/strconv.uint64pow10", "math/bits.deBruijn32tab", "math/bits.deBruijn64tab"], apart := false, laid := [("math/bits.deBruijn32tab", laid_math_bits_deBruijn32tab), ("math/bits.deBruijn64tab", laid_math_bits_deBruijn64tab), ("internal/strconv.uint64pow10", laid_internal_strconv_uint64pow10)] }
def TrainParseSaid : Prop := trainParseRow.holds Tryz.pinned (OpenSpec.ofChange trainParseSpec)

/-- ITS FALSE NEIGHBOUR: 'it returns false'. Refute it at one input. -/
def trainParseWrong : ChangeSpec := { name := "trainParse", fn := fun _ => fun
  | [d1, d2, d3, d4, d5, d6] => { results := [.lit (.bool false)], args := [d1, d2, d3, d4, d5, d6] }
  | _ => none }
def TrainParseWrongFalsely : Prop := trainParseRow.holds Tryz.pinned (OpenSpec.ofChange trainParseWrong)

/- THE SECOND FORM. 'bulk': how many values and letters a reading holds, each counted each time it is reached (what is shared counts as often as it is met; a slice's spare places count too). A statement '..UptoSaid' is the law's where the arguments, and the package variables that the reading takes, are together of bulk at most 1048576: NARROWER than '..Said'. Prove '..Said' where nothing that the law and all that it calls make is longer than what came in: it says more and counts as full. Else prove '..UptoSaid'. A law counts once. -/
mutual
def uptoBulk {H : Type} : DataW H → Nat
  | .lit (.string bytes) => bytes.length + 1
  | .lit _ => 1
  | .nil => 1
  | .ptr d => uptoBulk d + 1
  | .slice elems spare => uptoBulkAll elems + uptoBulkAll spare + 1
  | .agg parts => uptoBulkAll parts + 1
  | .iface _ d => uptoBulk d + 1
  | .map entries => uptoBulkEntries entries + 1
  | .held _ => 1
def uptoBulkAll {H : Type} : List (DataW H) → Nat
  | [] => 0
  | d :: r => uptoBulk d + uptoBulkAll r
def uptoBulkEntries {H : Type} : List (Lit × DataW H) → Nat
  | [] => 0
  | x :: r => uptoBulkEntry x + uptoBulkEntries r
def uptoBulkEntry {H : Type} : Lit × DataW H → Nat
  | (.string bytes, d) => bytes.length + uptoBulk d + 1
  | (_, d) => uptoBulk d + 1
 end
def uptoSmall : (H : Type) → List (DataW H) → Bool := fun _ ds => decide (uptoBulkAll ds ≤ 1048576)
def OpenSpec.upto (s : _root_.Go.ChangeSpec) : _root_.Go.OpenSpec := { _root_.Go.OpenSpec.ofChange s with cond := some uptoSmall }

/-- 'quadformlaw27.TrainCanonical', WHERE WHAT IT READS IS OF BULK AT MOST 1048576: true; the input reads as it did. -/
def trainCanonicalUptoRow : OpenClaim := { program := "ytgbijhccgmmkgabgreatdoor", sum := "19a1fc8467e9149c9f81ade9c998aa6e37527f77f6a77a9d9576e05e8e43a454", func := "quadform/quadformlaw27.TrainCanonical", spec := "trainCanonical", unfollowed := true, recurses := true, named := ["internal/strconv.uint64pow10", "math/bits.deBruijn32tab", "math/bits.deBruijn64tab"], apart := false, laid := [("math/bits.deBruijn32tab", laid_math_bits_deBruijn32tab), ("math/bits.deBruijn64tab", laid_math_bits_deBruijn64tab), ("internal/strconv.uint64pow10", laid_internal_strconv_uint64pow10)], narrowed := true }
def TrainCanonicalUptoSaid : Prop := trainCanonicalUptoRow.holds Tryz.pinned (OpenSpec.upto trainCanonicalSpec)

/-- 'quadformlaw27.TrainCanonicalIs', WHERE WHAT IT READS IS OF BULK AT MOST 1048576: true; the input reads as it did. -/
def trainCanonicalIsUptoRow : OpenClaim := { program := "ytgbijhccgmmkgabgreatdoor", sum := "19a1fc8467e9149c9f81ade9c998aa6e37527f77f6a77a9d9576e05e8e43a454", func := "quadform/quadformlaw27.TrainCanonicalIs", spec := "trainCanonicalIs", unfollowed := true, recurses := true, named := ["internal/strconv.uint64pow10", "math/bits.deBruijn32tab", "math/bits.deBruijn64tab"], apart := false, laid := [("math/bits.deBruijn32tab", laid_math_bits_deBruijn32tab), ("math/bits.deBruijn64tab", laid_math_bits_deBruijn64tab), ("internal/strconv.uint64pow10", laid_internal_strconv_uint64pow10)], narrowed := true }
def TrainCanonicalIsUptoSaid : Prop := trainCanonicalIsUptoRow.holds Tryz.pinned (OpenSpec.upto trainCanonicalIsSpec)

/-- 'quadformlaw27.TrainOrbit', WHERE WHAT IT READS IS OF BULK AT MOST 1048576: true; the input reads as it did. -/
def trainOrbitUptoRow : OpenClaim := { program := "ytgbijhccgmmkgabgreatdoor", sum := "19a1fc8467e9149c9f81ade9c998aa6e37527f77f6a77a9d9576e05e8e43a454", func := "quadform/quadformlaw27.TrainOrbit", spec := "trainOrbit", unfollowed := true, recurses := true, named := ["internal/strconv.uint64pow10", "math/bits.deBruijn32tab", "math/bits.deBruijn64tab"], apart := false, laid := [("math/bits.deBruijn32tab", laid_math_bits_deBruijn32tab), ("math/bits.deBruijn64tab", laid_math_bits_deBruijn64tab), ("internal/strconv.uint64pow10", laid_internal_strconv_uint64pow10)], narrowed := true }
def TrainOrbitUptoSaid : Prop := trainOrbitUptoRow.holds Tryz.pinned (OpenSpec.upto trainOrbitSpec)

/-- 'quadformlaw27.TrainRefine', WHERE WHAT IT READS IS OF BULK AT MOST 1048576: true; the input reads as it did. -/
def trainRefineUptoRow : OpenClaim := { program := "ytgbijhccgmmkgabgreatdoor", sum := "19a1fc8467e9149c9f81ade9c998aa6e37527f77f6a77a9d9576e05e8e43a454", func := "quadform/quadformlaw27.TrainRefine", spec := "trainRefine", unfollowed := true, recurses := true, named := ["internal/strconv.uint64pow10", "math/bits.deBruijn32tab", "math/bits.deBruijn64tab"], apart := false, laid := [("math/bits.deBruijn32tab", laid_math_bits_deBruijn32tab), ("math/bits.deBruijn64tab", laid_math_bits_deBruijn64tab), ("internal/strconv.uint64pow10", laid_internal_strconv_uint64pow10)], narrowed := true }
def TrainRefineUptoSaid : Prop := trainRefineUptoRow.holds Tryz.pinned (OpenSpec.upto trainRefineSpec)

/-- 'quadformlaw27.TrainRefines', WHERE WHAT IT READS IS OF BULK AT MOST 1048576: true; the input reads as it did. -/
def trainRefinesUptoRow : OpenClaim := { program := "ytgbijhccgmmkgabgreatdoor", sum := "19a1fc8467e9149c9f81ade9c998aa6e37527f77f6a77a9d9576e05e8e43a454", func := "quadform/quadformlaw27.TrainRefines", spec := "trainRefines", unfollowed := true, recurses := true, named := ["internal/strconv.uint64pow10", "math/bits.deBruijn32tab", "math/bits.deBruijn64tab"], apart := false, laid := [("math/bits.deBruijn32tab", laid_math_bits_deBruijn32tab), ("math/bits.deBruijn64tab", laid_math_bits_deBruijn64tab), ("internal/strconv.uint64pow10", laid_internal_strconv_uint64pow10)], narrowed := true }
def TrainRefinesUptoSaid : Prop := trainRefinesUptoRow.holds Tryz.pinned (OpenSpec.upto trainRefinesSpec)

/-- 'quadformlaw27.TrainShapes', WHERE WHAT IT READS IS OF BULK AT MOST 1048576: true; the input reads as it did. -/
def trainShapesUptoRow : OpenClaim := { program := "ytgbijhccgmmkgabgreatdoor", sum := "19a1fc8467e9149c9f81ade9c998aa6e37527f77f6a77a9d9576e05e8e43a454", func := "quadform/quadformlaw27.TrainShapes", spec := "trainShapes", unfollowed := true, recurses := true, named := ["internal/strconv.uint64pow10", "math/bits.deBruijn32tab", "math/bits.deBruijn64tab"], apart := false, laid := [("math/bits.deBruijn32tab", laid_math_bits_deBruijn32tab), ("math/bits.deBruijn64tab", laid_math_bits_deBruijn64tab), ("internal/strconv.uint64pow10", laid_internal_strconv_uint64pow10)], narrowed := true }
def TrainShapesUptoSaid : Prop := trainShapesUptoRow.holds Tryz.pinned (OpenSpec.upto trainShapesSpec)

/-- 'quadformlaw27.TrainSums', WHERE WHAT IT READS IS OF BULK AT MOST 1048576: true; the input reads as it did. -/
def trainSumsUptoRow : OpenClaim := { program := "ytgbijhccgmmkgabgreatdoor", sum := "19a1fc8467e9149c9f81ade9c998aa6e37527f77f6a77a9d9576e05e8e43a454", func := "quadform/quadformlaw27.TrainSums", spec := "trainSums", unfollowed := true, recurses := true, named := ["internal/strconv.uint64pow10", "math/bits.deBruijn32tab", "math/bits.deBruijn64tab"], apart := false, laid := [("math/bits.deBruijn32tab", laid_math_bits_deBruijn32tab), ("math/bits.deBruijn64tab", laid_math_bits_deBruijn64tab), ("internal/strconv.uint64pow10", laid_internal_strconv_uint64pow10)], narrowed := true }
def TrainSumsUptoSaid : Prop := trainSumsUptoRow.holds Tryz.pinned (OpenSpec.upto trainSumsSpec)

/-- 'quadformlaw27.TrainFormat', WHERE WHAT IT READS IS OF BULK AT MOST 1048576: true; the input reads as it did. -/
def trainFormatUptoRow : OpenClaim := { program := "ytgbijhccgmmkgabgreatdoor", sum := "19a1fc8467e9149c9f81ade9c998aa6e37527f77f6a77a9d9576e05e8e43a454", func := "quadform/quadformlaw27.TrainFormat", spec := "trainFormat", unfollowed := true, recurses := true, named := ["internal/strconv.uint64pow10", "math/bits.deBruijn32tab", "math/bits.deBruijn64tab"], apart := false, laid := [("math/bits.deBruijn32tab", laid_math_bits_deBruijn32tab), ("math/bits.deBruijn64tab", laid_math_bits_deBruijn64tab), ("internal/strconv.uint64pow10", laid_internal_strconv_uint64pow10)], narrowed := true }
def TrainFormatUptoSaid : Prop := trainFormatUptoRow.holds Tryz.pinned (OpenSpec.upto trainFormatSpec)

/-- 'quadformlaw27.TrainParse', WHERE WHAT IT READS IS OF BULK AT MOST 1048576: true; the input reads as it did. -/
def trainParseUptoRow : OpenClaim := { program := "ytgbijhccgmmkgabgreatdoor", sum := "19a1fc8467e9149c9f81ade9c998aa6e37527f77f6a77a9d9576e05e8e43a454", func := "quadform/quadformlaw27.TrainParse", spec := "trainParse", unfollowed := true, recurses := true, named := ["internal/strconv.uint64pow10", "math/bits.deBruijn32tab", "math/bits.deBruijn64tab"], apart := false, laid := [("math/bits.deBruijn32tab", laid_math_bits_deBruijn32tab), ("math/bits.deBruijn64tab", laid_math_bits_deBruijn64tab), ("internal/strconv.uint64pow10", laid_internal_strconv_uint64pow10)], narrowed := true }
def TrainParseUptoSaid : Prop := trainParseUptoRow.holds Tryz.pinned (OpenSpec.upto trainParseSpec)

end Rows
end Go.Proofs.YtgbijhccgmmkgabGreatDoor
