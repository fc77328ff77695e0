/-
  NARROWER THAN 'FOR EVERY INPUT', by the rows' own cells (each row's printed sentence says how): TrainLegal: laid · TrainLegalForms: laid · TrainSum: laid · TrainFuse: laid · TrainWalk: laid · TrainOddity: laid · TrainParts: laid · TrainCovers: laid · TrainWalks: laid.
  DERIVED. THE GIVEN ROWS OF THIS SEAT. 9 by the template 'for every input the law returns true; each argument reads behind the call as it read before'; 0 by the template 'total and deterministic' (their statements: YtgbijhccgmmkgaaGreatDoorTotals.lean).
  GIVEN WITH THE SEED: the statements are not yours to turn. If you find one false, say at which input.
  Laid BY PROGRAM, IN A SANDBOX (cutbox-rows.mjs): the forced cells as the released guide's own fill.sh prints them over the translation 61921aaec8fc2d12… (all of the seat's roots in one cut). By AI agents, Wed Nov 11 2026. No macro, syntax, notation, axiom, sorry.
-/
import Derived.Test.YtgbijhccgmmkgaaGreatDoorChecked
import GoSem.Claim
import GoSem.ClaimJoined
import GoSem.ClaimMapViews
import Derived.JoinedTies
import Derived.KernelRfl
namespace Go.Proofs.YtgbijhccgmmkgaaGreatDoor
/- THE CELL 'sum', in the pinned program and in every row, IS THE sha256 OF THE DUMP (.gsa) THAT YtgbijhccgmmkgaaGreatDoorProg.lean LOADS. Nothing in Lean hashes anything: it is a label: what it is worth is what the hold of that sum in a sandbox is worth. -/
noncomputable def Tryz.pinned : Pinned := { name := "ytgbijhccgmmkgaagreatdoor", sum := "61921aaec8fc2d12ea84a74d9ec4110c269036df47030778e9830b8cacf71255", checked := Tryz.checked }
namespace Rows
def none {H : Type} : Left H := { results := [], args := [] }

/- WHAT THE LISTED PACKAGE-LEVEL VARIABLES READ AS WHEN THE CALL BEGINS. Each datum BY PROGRAM (the guide's laid-datum.mjs) off the statement by which the dump's own 'gosem.cut.vars' lays the variable. In a bare row this is a premise. The card (YtgbijhccgmmkgaaGreatDoorCards.lean) ties it to the program's text. -/
def laid_math_bits_deBruijn32tab {H : Type} : DataW H := .agg [.lit (.int .u8 0), .lit (.int .u8 1), .lit (.int .u8 28), .lit (.int .u8 2), .lit (.int .u8 29), .lit (.int .u8 14), .lit (.int .u8 24), .lit (.int .u8 3), .lit (.int .u8 30), .lit (.int .u8 22), .lit (.int .u8 20), .lit (.int .u8 15), .lit (.int .u8 25), .lit (.int .u8 17), .lit (.int .u8 4), .lit (.int .u8 8), .lit (.int .u8 31), .lit (.int .u8 27), .lit (.int .u8 13), .lit (.int .u8 23), .lit (.int .u8 21), .lit (.int .u8 19), .lit (.int .u8 16), .lit (.int .u8 7), .lit (.int .u8 26), .lit (.int .u8 12), .lit (.int .u8 18), .lit (.int .u8 6), .lit (.int .u8 11), .lit (.int .u8 5), .lit (.int .u8 10), .lit (.int .u8 9)]
def laid_math_bits_deBruijn64tab {H : Type} : DataW H := .agg [.lit (.int .u8 0), .lit (.int .u8 1), .lit (.int .u8 56), .lit (.int .u8 2), .lit (.int .u8 57), .lit (.int .u8 49), .lit (.int .u8 28), .lit (.int .u8 3), .lit (.int .u8 61), .lit (.int .u8 58), .lit (.int .u8 42), .lit (.int .u8 50), .lit (.int .u8 38), .lit (.int .u8 29), .lit (.int .u8 17), .lit (.int .u8 4), .lit (.int .u8 62), .lit (.int .u8 47), .lit (.int .u8 59), .lit (.int .u8 36), .lit (.int .u8 45), .lit (.int .u8 43), .lit (.int .u8 51), .lit (.int .u8 22), .lit (.int .u8 53), .lit (.int .u8 39), .lit (.int .u8 33), .lit (.int .u8 30), .lit (.int .u8 24), .lit (.int .u8 18), .lit (.int .u8 12), .lit (.int .u8 5), .lit (.int .u8 63), .lit (.int .u8 55), .lit (.int .u8 48), .lit (.int .u8 27), .lit (.int .u8 60), .lit (.int .u8 41), .lit (.int .u8 37), .lit (.int .u8 16), .lit (.int .u8 46), .lit (.int .u8 35), .lit (.int .u8 44), .lit (.int .u8 21), .lit (.int .u8 52), .lit (.int .u8 32), .lit (.int .u8 23), .lit (.int .u8 11), .lit (.int .u8 54), .lit (.int .u8 26), .lit (.int .u8 40), .lit (.int .u8 15), .lit (.int .u8 34), .lit (.int .u8 20), .lit (.int .u8 31), .lit (.int .u8 10), .lit (.int .u8 25), .lit (.int .u8 14), .lit (.int .u8 19), .lit (.int .u8 9), .lit (.int .u8 13), .lit (.int .u8 8), .lit (.int .u8 7), .lit (.int .u8 6)]
def laid_internal_strconv_uint64pow10 {H : Type} : DataW H := .agg [.lit (.int .u64 1), .lit (.int .u64 10), .lit (.int .u64 100), .lit (.int .u64 1000), .lit (.int .u64 10000), .lit (.int .u64 100000), .lit (.int .u64 1000000), .lit (.int .u64 10000000), .lit (.int .u64 100000000), .lit (.int .u64 1000000000), .lit (.int .u64 10000000000), .lit (.int .u64 100000000000), .lit (.int .u64 1000000000000), .lit (.int .u64 10000000000000), .lit (.int .u64 100000000000000), .lit (.int .u64 1000000000000000), .lit (.int .u64 10000000000000000), .lit (.int .u64 100000000000000000), .lit (.int .u64 1000000000000000000), .lit (.int .u64 10000000000000000000)]

/-- 'quadformlaw27.TrainLegal': WHATEVER THE INPUT: true; the input reads as it did. -/
def trainLegalSpec : ChangeSpec := { name := "trainLegal", fn := fun _ => fun
  | [d1, d2, d3, d4] => { results := [.lit (.bool true)], args := [d1, d2, d3, d4] }
  | _ => none }
def trainLegalRow : OpenClaim := { program := "ytgbijhccgmmkgaagreatdoor", sum := "61921aaec8fc2d12ea84a74d9ec4110c269036df47030778e9830b8cacf71255", func := "quadform/quadformlaw27.TrainLegal", spec := "trainLegal", unfollowed := true, recurses := true, named := ["internal/strconv.uint64pow10", "math/bits.deBruijn32tab", "math/bits.deBruijn64tab"], apart := false, laid := [("math/bits.deBruijn32tab", laid_math_bits_deBruijn32tab), ("math/bits.deBruijn64tab", laid_math_bits_deBruijn64tab), ("internal/strconv.uint64pow10", laid_internal_strconv_uint64pow10)] }
def TrainLegalSaid : Prop := trainLegalRow.holds Tryz.pinned (OpenSpec.ofChange trainLegalSpec)

/-- ITS FALSE NEIGHBOUR: 'it returns false'. Refute it at one input. -/
def trainLegalWrong : ChangeSpec := { name := "trainLegal", fn := fun _ => fun
  | [d1, d2, d3, d4] => { results := [.lit (.bool false)], args := [d1, d2, d3, d4] }
  | _ => none }
def TrainLegalWrongFalsely : Prop := trainLegalRow.holds Tryz.pinned (OpenSpec.ofChange trainLegalWrong)

/-- 'quadformlaw27.TrainLegalForms': WHATEVER THE INPUT: true; the input reads as it did. -/
def trainLegalFormsSpec : ChangeSpec := { name := "trainLegalForms", fn := fun _ => fun
  | [d1, d2, d3] => { results := [.lit (.bool true)], args := [d1, d2, d3] }
  | _ => none }
def trainLegalFormsRow : OpenClaim := { program := "ytgbijhccgmmkgaagreatdoor", sum := "61921aaec8fc2d12ea84a74d9ec4110c269036df47030778e9830b8cacf71255", func := "quadform/quadformlaw27.TrainLegalForms", spec := "trainLegalForms", unfollowed := true, recurses := true, named := ["internal/strconv.uint64pow10", "math/bits.deBruijn32tab", "math/bits.deBruijn64tab"], apart := false, laid := [("math/bits.deBruijn32tab", laid_math_bits_deBruijn32tab), ("math/bits.deBruijn64tab", laid_math_bits_deBruijn64tab), ("internal/strconv.uint64pow10", laid_internal_strconv_uint64pow10)] }
def TrainLegalFormsSaid : Prop := trainLegalFormsRow.holds Tryz.pinned (OpenSpec.ofChange trainLegalFormsSpec)

/-- ITS FALSE NEIGHBOUR: 'it returns false'. Refute it at one input. -/
def trainLegalFormsWrong : ChangeSpec := { name := "trainLegalForms", fn := fun _ => fun
  | [d1, d2, d3] => { results := [.lit (.bool false)], args := [d1, d2, d3] }
  | _ => none }
def TrainLegalFormsWrongFalsely : Prop := trainLegalFormsRow.holds Tryz.pinned (OpenSpec.ofChange trainLegalFormsWrong)

/-- 'quadformlaw27.TrainSum': WHATEVER THE INPUT: true; the input reads as it did. -/
def trainSumSpec : ChangeSpec := { name := "trainSum", fn := fun _ => fun
  | [d1, d2, d3, d4, d5] => { results := [.lit (.bool true)], args := [d1, d2, d3, d4, d5] }
  | _ => none }
def trainSumRow : OpenClaim := { program := "ytgbijhccgmmkgaagreatdoor", sum := "61921aaec8fc2d12ea84a74d9ec4110c269036df47030778e9830b8cacf71255", func := "quadform/quadformlaw27.TrainSum", spec := "trainSum", unfollowed := true, recurses := true, named := ["internal/strconv.uint64pow10", "math/bits.deBruijn32tab", "math/bits.deBruijn64tab"], apart := false, laid := [("math/bits.deBruijn32tab", laid_math_bits_deBruijn32tab), ("math/bits.deBruijn64tab", laid_math_bits_deBruijn64tab), ("internal/strconv.uint64pow10", laid_internal_strconv_uint64pow10)] }
def TrainSumSaid : Prop := trainSumRow.holds Tryz.pinned (OpenSpec.ofChange trainSumSpec)

/-- ITS FALSE NEIGHBOUR: 'it returns false'. Refute it at one input. -/
def trainSumWrong : ChangeSpec := { name := "trainSum", fn := fun _ => fun
  | [d1, d2, d3, d4, d5] => { results := [.lit (.bool false)], args := [d1, d2, d3, d4, d5] }
  | _ => none }
def TrainSumWrongFalsely : Prop := trainSumRow.holds Tryz.pinned (OpenSpec.ofChange trainSumWrong)

/-- 'quadformlaw27.TrainFuse': WHATEVER THE INPUT: true; the input reads as it did. -/
def trainFuseSpec : ChangeSpec := { name := "trainFuse", fn := fun _ => fun
  | [d1, d2, d3, d4, d5, d6] => { results := [.lit (.bool true)], args := [d1, d2, d3, d4, d5, d6] }
  | _ => none }
def trainFuseRow : OpenClaim := { program := "ytgbijhccgmmkgaagreatdoor", sum := "61921aaec8fc2d12ea84a74d9ec4110c269036df47030778e9830b8cacf71255", func := "quadform/quadformlaw27.TrainFuse", spec := "trainFuse", unfollowed := true, recurses := true, named := ["internal/strconv.uint64pow10", "math/bits.deBruijn32tab", "math/bits.deBruijn64tab"], apart := false, laid := [("math/bits.deBruijn32tab", laid_math_bits_deBruijn32tab), ("math/bits.deBruijn64tab", laid_math_bits_deBruijn64tab), ("internal/strconv.uint64pow10", laid_internal_strconv_uint64pow10)] }
def TrainFuseSaid : Prop := trainFuseRow.holds Tryz.pinned (OpenSpec.ofChange trainFuseSpec)

/-- ITS FALSE NEIGHBOUR: 'it returns false'. Refute it at one input. -/
def trainFuseWrong : ChangeSpec := { name := "trainFuse", fn := fun _ => fun
  | [d1, d2, d3, d4, d5, d6] => { results := [.lit (.bool false)], args := [d1, d2, d3, d4, d5, d6] }
  | _ => none }
def TrainFuseWrongFalsely : Prop := trainFuseRow.holds Tryz.pinned (OpenSpec.ofChange trainFuseWrong)

/-- 'quadformlaw27.TrainWalk': WHATEVER THE INPUT: true; the input reads as it did. -/
def trainWalkSpec : ChangeSpec := { name := "trainWalk", fn := fun _ => fun
  | [d1, d2, d3, d4, d5] => { results := [.lit (.bool true)], args := [d1, d2, d3, d4, d5] }
  | _ => none }
def trainWalkRow : OpenClaim := { program := "ytgbijhccgmmkgaagreatdoor", sum := "61921aaec8fc2d12ea84a74d9ec4110c269036df47030778e9830b8cacf71255", func := "quadform/quadformlaw27.TrainWalk", spec := "trainWalk", unfollowed := true, recurses := true, named := ["internal/strconv.uint64pow10", "math/bits.deBruijn32tab", "math/bits.deBruijn64tab"], apart := false, laid := [("math/bits.deBruijn32tab", laid_math_bits_deBruijn32tab), ("math/bits.deBruijn64tab", laid_math_bits_deBruijn64tab), ("internal/strconv.uint64pow10", laid_internal_strconv_uint64pow10)] }
def TrainWalkSaid : Prop := trainWalkRow.holds Tryz.pinned (OpenSpec.ofChange trainWalkSpec)

/-- ITS FALSE NEIGHBOUR: 'it returns false'. Refute it at one input. -/
def trainWalkWrong : ChangeSpec := { name := "trainWalk", fn := fun _ => fun
  | [d1, d2, d3, d4, d5] => { results := [.lit (.bool false)], args := [d1, d2, d3, d4, d5] }
  | _ => none }
def TrainWalkWrongFalsely : Prop := trainWalkRow.holds Tryz.pinned (OpenSpec.ofChange trainWalkWrong)

/-- 'quadformlaw27.TrainOddity': WHATEVER THE INPUT: true; the input reads as it did. -/
def trainOdditySpec : ChangeSpec := { name := "trainOddity", fn := fun _ => fun
  | [d1, d2, d3, d4, d5, d6] => { results := [.lit (.bool true)], args := [d1, d2, d3, d4, d5, d6] }
  | _ => none }
def trainOddityRow : OpenClaim := { program := "ytgbijhccgmmkgaagreatdoor", sum := "61921aaec8fc2d12ea84a74d9ec4110c269036df47030778e9830b8cacf71255", func := "quadform/quadformlaw27.TrainOddity", spec := "trainOddity", unfollowed := true, recurses := true, named := ["internal/strconv.uint64pow10", "math/bits.deBruijn32tab", "math/bits.deBruijn64tab"], apart := false, laid := [("math/bits.deBruijn32tab", laid_math_bits_deBruijn32tab), ("math/bits.deBruijn64tab", laid_math_bits_deBruijn64tab), ("internal/strconv.uint64pow10", laid_internal_strconv_uint64pow10)] }
def TrainOdditySaid : Prop := trainOddityRow.holds Tryz.pinned (OpenSpec.ofChange trainOdditySpec)

/-- ITS FALSE NEIGHBOUR: 'it returns false'. Refute it at one input. -/
def trainOddityWrong : ChangeSpec := { name := "trainOddity", fn := fun _ => fun
  | [d1, d2, d3, d4, d5, d6] => { results := [.lit (.bool false)], args := [d1, d2, d3, d4, d5, d6] }
  | _ => none }
def TrainOddityWrongFalsely : Prop := trainOddityRow.holds Tryz.pinned (OpenSpec.ofChange trainOddityWrong)

/-- 'quadformlaw27.TrainParts': WHATEVER THE INPUT: true; the input reads as it did. -/
def trainPartsSpec : ChangeSpec := { name := "trainParts", fn := fun _ => fun
  | [d1, d2, d3, d4, d5, d6] => { results := [.lit (.bool true)], args := [d1, d2, d3, d4, d5, d6] }
  | _ => none }
def trainPartsRow : OpenClaim := { program := "ytgbijhccgmmkgaagreatdoor", sum := "61921aaec8fc2d12ea84a74d9ec4110c269036df47030778e9830b8cacf71255", func := "quadform/quadformlaw27.TrainParts", spec := "trainParts", unfollowed := true, recurses := true, named := ["internal/strconv.uint64pow10", "math/bits.deBruijn32tab", "math/bits.deBruijn64tab"], apart := false, laid := [("math/bits.deBruijn32tab", laid_math_bits_deBruijn32tab), ("math/bits.deBruijn64tab", laid_math_bits_deBruijn64tab), ("internal/strconv.uint64pow10", laid_internal_strconv_uint64pow10)] }
def TrainPartsSaid : Prop := trainPartsRow.holds Tryz.pinned (OpenSpec.ofChange trainPartsSpec)

/-- ITS FALSE NEIGHBOUR: 'it returns false'. Refute it at one input. -/
def trainPartsWrong : ChangeSpec := { name := "trainParts", fn := fun _ => fun
  | [d1, d2, d3, d4, d5, d6] => { results := [.lit (.bool false)], args := [d1, d2, d3, d4, d5, d6] }
  | _ => none }
def TrainPartsWrongFalsely : Prop := trainPartsRow.holds Tryz.pinned (OpenSpec.ofChange trainPartsWrong)

/-- 'quadformlaw27.TrainCovers': WHATEVER THE INPUT: true; the input reads as it did. -/
def trainCoversSpec : ChangeSpec := { name := "trainCovers", fn := fun _ => fun
  | [d] => { results := [.lit (.bool true)], args := [d] }
  | _ => none }
def trainCoversRow : OpenClaim := { program := "ytgbijhccgmmkgaagreatdoor", sum := "61921aaec8fc2d12ea84a74d9ec4110c269036df47030778e9830b8cacf71255", func := "quadform/quadformlaw27.TrainCovers", spec := "trainCovers", unfollowed := true, recurses := true, named := ["internal/strconv.uint64pow10", "math/bits.deBruijn32tab", "math/bits.deBruijn64tab"], apart := false, laid := [("math/bits.deBruijn32tab", laid_math_bits_deBruijn32tab), ("math/bits.deBruijn64tab", laid_math_bits_deBruijn64tab), ("internal/strconv.uint64pow10", laid_internal_strconv_uint64pow10)] }
def TrainCoversSaid : Prop := trainCoversRow.holds Tryz.pinned (OpenSpec.ofChange trainCoversSpec)

/-- ITS FALSE NEIGHBOUR: 'it returns false'. Refute it at one input. -/
def trainCoversWrong : ChangeSpec := { name := "trainCovers", fn := fun _ => fun
  | [d] => { results := [.lit (.bool false)], args := [d] }
  | _ => none }
def TrainCoversWrongFalsely : Prop := trainCoversRow.holds Tryz.pinned (OpenSpec.ofChange trainCoversWrong)

/-- 'quadformlaw27.TrainWalks': WHATEVER THE INPUT: true; the input reads as it did. -/
def trainWalksSpec : ChangeSpec := { name := "trainWalks", fn := fun _ => fun
  | [d1, d2] => { results := [.lit (.bool true)], args := [d1, d2] }
  | _ => none }
def trainWalksRow : OpenClaim := { program := "ytgbijhccgmmkgaagreatdoor", sum := "61921aaec8fc2d12ea84a74d9ec4110c269036df47030778e9830b8cacf71255", func := "quadform/quadformlaw27.TrainWalks", spec := "trainWalks", unfollowed := true, recurses := true, named := ["internal/strconv.uint64pow10", "math/bits.deBruijn32tab", "math/bits.deBruijn64tab"], apart := false, laid := [("math/bits.deBruijn32tab", laid_math_bits_deBruijn32tab), ("math/bits.deBruijn64tab", laid_math_bits_deBruijn64tab), ("internal/strconv.uint64pow10", laid_internal_strconv_uint64pow10)] }
def TrainWalksSaid : Prop := trainWalksRow.holds Tryz.pinned (OpenSpec.ofChange trainWalksSpec)

/-- ITS FALSE NEIGHBOUR: 'it returns false'. Refute it at one input. -/
def trainWalksWrong : ChangeSpec := { name := "trainWalks", fn := fun _ => fun
  | [d1, d2] => { results := [.lit (.bool false)], args := [d1, d2] }
  | _ => none }
def TrainWalksWrongFalsely : Prop := trainWalksRow.holds Tryz.pinned (OpenSpec.ofChange trainWalksWrong)

/- THE SECOND FORM. 'bulk': how many values and letters a reading holds, each counted each time it is reached (what is shared counts as often as it is met; a slice's spare places count too). A statement '..UptoSaid' is the law's where the arguments, and the package variables that the reading takes, are together of bulk at most 1048576: NARROWER than '..Said'. Prove '..Said' where nothing that the law and all that it calls make is longer than what came in: it says more and counts as full. Else prove '..UptoSaid'. A law counts once. -/
mutual
def uptoBulk {H : Type} : DataW H → Nat
  | .lit (.string bytes) => bytes.length + 1
  | .lit _ => 1
  | .nil => 1
  | .ptr d => uptoBulk d + 1
  | .slice elems spare => uptoBulkAll elems + uptoBulkAll spare + 1
  | .agg parts => uptoBulkAll parts + 1
  | .iface _ d => uptoBulk d + 1
  | .map entries => uptoBulkEntries entries + 1
  | .held _ => 1
def uptoBulkAll {H : Type} : List (DataW H) → Nat
  | [] => 0
  | d :: r => uptoBulk d + uptoBulkAll r
def uptoBulkEntries {H : Type} : List (Lit × DataW H) → Nat
  | [] => 0
  | x :: r => uptoBulkEntry x + uptoBulkEntries r
def uptoBulkEntry {H : Type} : Lit × DataW H → Nat
  | (.string bytes, d) => bytes.length + uptoBulk d + 1
  | (_, d) => uptoBulk d + 1
 end
def uptoSmall : (H : Type) → List (DataW H) → Bool := fun _ ds => decide (uptoBulkAll ds ≤ 1048576)
def OpenSpec.upto (s : _root_.Go.ChangeSpec) : _root_.Go.OpenSpec := { _root_.Go.OpenSpec.ofChange s with cond := some uptoSmall }

/-- 'quadformlaw27.TrainLegal', WHERE WHAT IT READS IS OF BULK AT MOST 1048576: true; the input reads as it did. -/
def trainLegalUptoRow : OpenClaim := { program := "ytgbijhccgmmkgaagreatdoor", sum := "61921aaec8fc2d12ea84a74d9ec4110c269036df47030778e9830b8cacf71255", func := "quadform/quadformlaw27.TrainLegal", spec := "trainLegal", unfollowed := true, recurses := true, named := ["internal/strconv.uint64pow10", "math/bits.deBruijn32tab", "math/bits.deBruijn64tab"], apart := false, laid := [("math/bits.deBruijn32tab", laid_math_bits_deBruijn32tab), ("math/bits.deBruijn64tab", laid_math_bits_deBruijn64tab), ("internal/strconv.uint64pow10", laid_internal_strconv_uint64pow10)], narrowed := true }
def TrainLegalUptoSaid : Prop := trainLegalUptoRow.holds Tryz.pinned (OpenSpec.upto trainLegalSpec)

/-- 'quadformlaw27.TrainLegalForms', WHERE WHAT IT READS IS OF BULK AT MOST 1048576: true; the input reads as it did. -/
def trainLegalFormsUptoRow : OpenClaim := { program := "ytgbijhccgmmkgaagreatdoor", sum := "61921aaec8fc2d12ea84a74d9ec4110c269036df47030778e9830b8cacf71255", func := "quadform/quadformlaw27.TrainLegalForms", spec := "trainLegalForms", unfollowed := true, recurses := true, named := ["internal/strconv.uint64pow10", "math/bits.deBruijn32tab", "math/bits.deBruijn64tab"], apart := false, laid := [("math/bits.deBruijn32tab", laid_math_bits_deBruijn32tab), ("math/bits.deBruijn64tab", laid_math_bits_deBruijn64tab), ("internal/strconv.uint64pow10", laid_internal_strconv_uint64pow10)], narrowed := true }
def TrainLegalFormsUptoSaid : Prop := trainLegalFormsUptoRow.holds Tryz.pinned (OpenSpec.upto trainLegalFormsSpec)

/-- 'quadformlaw27.TrainSum', WHERE WHAT IT READS IS OF BULK AT MOST 1048576: true; the input reads as it did. -/
def trainSumUptoRow : OpenClaim := { program := "ytgbijhccgmmkgaagreatdoor", sum := "61921aaec8fc2d12ea84a74d9ec4110c269036df47030778e9830b8cacf71255", func := "quadform/quadformlaw27.TrainSum", spec := "trainSum", unfollowed := true, recurses := true, named := ["internal/strconv.uint64pow10", "math/bits.deBruijn32tab", "math/bits.deBruijn64tab"], apart := false, laid := [("math/bits.deBruijn32tab", laid_math_bits_deBruijn32tab), ("math/bits.deBruijn64tab", laid_math_bits_deBruijn64tab), ("internal/strconv.uint64pow10", laid_internal_strconv_uint64pow10)], narrowed := true }
def TrainSumUptoSaid : Prop := trainSumUptoRow.holds Tryz.pinned (OpenSpec.upto trainSumSpec)

/-- 'quadformlaw27.TrainFuse', WHERE WHAT IT READS IS OF BULK AT MOST 1048576: true; the input reads as it did. -/
def trainFuseUptoRow : OpenClaim := { program := "ytgbijhccgmmkgaagreatdoor", sum := "61921aaec8fc2d12ea84a74d9ec4110c269036df47030778e9830b8cacf71255", func := "quadform/quadformlaw27.TrainFuse", spec := "trainFuse", unfollowed := true, recurses := true, named := ["internal/strconv.uint64pow10", "math/bits.deBruijn32tab", "math/bits.deBruijn64tab"], apart := false, laid := [("math/bits.deBruijn32tab", laid_math_bits_deBruijn32tab), ("math/bits.deBruijn64tab", laid_math_bits_deBruijn64tab), ("internal/strconv.uint64pow10", laid_internal_strconv_uint64pow10)], narrowed := true }
def TrainFuseUptoSaid : Prop := trainFuseUptoRow.holds Tryz.pinned (OpenSpec.upto trainFuseSpec)

/-- 'quadformlaw27.TrainWalk', WHERE WHAT IT READS IS OF BULK AT MOST 1048576: true; the input reads as it did. -/
def trainWalkUptoRow : OpenClaim := { program := "ytgbijhccgmmkgaagreatdoor", sum := "61921aaec8fc2d12ea84a74d9ec4110c269036df47030778e9830b8cacf71255", func := "quadform/quadformlaw27.TrainWalk", spec := "trainWalk", unfollowed := true, recurses := true, named := ["internal/strconv.uint64pow10", "math/bits.deBruijn32tab", "math/bits.deBruijn64tab"], apart := false, laid := [("math/bits.deBruijn32tab", laid_math_bits_deBruijn32tab), ("math/bits.deBruijn64tab", laid_math_bits_deBruijn64tab), ("internal/strconv.uint64pow10", laid_internal_strconv_uint64pow10)], narrowed := true }
def TrainWalkUptoSaid : Prop := trainWalkUptoRow.holds Tryz.pinned (OpenSpec.upto trainWalkSpec)

/-- 'quadformlaw27.TrainOddity', WHERE WHAT IT READS IS OF BULK AT MOST 1048576: true; the input reads as it did. -/
def trainOddityUptoRow : OpenClaim := { program := "ytgbijhccgmmkgaagreatdoor", sum := "61921aaec8fc2d12ea84a74d9ec4110c269036df47030778e9830b8cacf71255", func := "quadform/quadformlaw27.TrainOddity", spec := "trainOddity", unfollowed := true, recurses := true, named := ["internal/strconv.uint64pow10", "math/bits.deBruijn32tab", "math/bits.deBruijn64tab"], apart := false, laid := [("math/bits.deBruijn32tab", laid_math_bits_deBruijn32tab), ("math/bits.deBruijn64tab", laid_math_bits_deBruijn64tab), ("internal/strconv.uint64pow10", laid_internal_strconv_uint64pow10)], narrowed := true }
def TrainOddityUptoSaid : Prop := trainOddityUptoRow.holds Tryz.pinned (OpenSpec.upto trainOdditySpec)

/-- 'quadformlaw27.TrainParts', WHERE WHAT IT READS IS OF BULK AT MOST 1048576: true; the input reads as it did. -/
def trainPartsUptoRow : OpenClaim := { program := "ytgbijhccgmmkgaagreatdoor", sum := "61921aaec8fc2d12ea84a74d9ec4110c269036df47030778e9830b8cacf71255", func := "quadform/quadformlaw27.TrainParts", spec := "trainParts", unfollowed := true, recurses := true, named := ["internal/strconv.uint64pow10", "math/bits.deBruijn32tab", "math/bits.deBruijn64tab"], apart := false, laid := [("math/bits.deBruijn32tab", laid_math_bits_deBruijn32tab), ("math/bits.deBruijn64tab", laid_math_bits_deBruijn64tab), ("internal/strconv.uint64pow10", laid_internal_strconv_uint64pow10)], narrowed := true }
def TrainPartsUptoSaid : Prop := trainPartsUptoRow.holds Tryz.pinned (OpenSpec.upto trainPartsSpec)

/-- 'quadformlaw27.TrainCovers', WHERE WHAT IT READS IS OF BULK AT MOST 1048576: true; the input reads as it did. -/
def trainCoversUptoRow : OpenClaim := { program := "ytgbijhccgmmkgaagreatdoor", sum := "61921aaec8fc2d12ea84a74d9ec4110c269036df47030778e9830b8cacf71255", func := "quadform/quadformlaw27.TrainCovers", spec := "trainCovers", unfollowed := true, recurses := true, named := ["internal/strconv.uint64pow10", "math/bits.deBruijn32tab", "math/bits.deBruijn64tab"], apart := false, laid := [("math/bits.deBruijn32tab", laid_math_bits_deBruijn32tab), ("math/bits.deBruijn64tab", laid_math_bits_deBruijn64tab), ("internal/strconv.uint64pow10", laid_internal_strconv_uint64pow10)], narrowed := true }
def TrainCoversUptoSaid : Prop := trainCoversUptoRow.holds Tryz.pinned (OpenSpec.upto trainCoversSpec)

/-- 'quadformlaw27.TrainWalks', WHERE WHAT IT READS IS OF BULK AT MOST 1048576: true; the input reads as it did. -/
def trainWalksUptoRow : OpenClaim := { program := "ytgbijhccgmmkgaagreatdoor", sum := "61921aaec8fc2d12ea84a74d9ec4110c269036df47030778e9830b8cacf71255", func := "quadform/quadformlaw27.TrainWalks", spec := "trainWalks", unfollowed := true, recurses := true, named := ["internal/strconv.uint64pow10", "math/bits.deBruijn32tab", "math/bits.deBruijn64tab"], apart := false, laid := [("math/bits.deBruijn32tab", laid_math_bits_deBruijn32tab), ("math/bits.deBruijn64tab", laid_math_bits_deBruijn64tab), ("internal/strconv.uint64pow10", laid_internal_strconv_uint64pow10)], narrowed := true }
def TrainWalksUptoSaid : Prop := trainWalksUptoRow.holds Tryz.pinned (OpenSpec.upto trainWalksSpec)

end Rows
end Go.Proofs.YtgbijhccgmmkgaaGreatDoor
