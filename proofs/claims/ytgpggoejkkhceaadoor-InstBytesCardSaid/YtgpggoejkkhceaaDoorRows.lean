/-
  NARROWER THAN 'FOR EVERY INPUT', by the rows' own cells (each row's printed sentence says how): InstWords: laid · InstInstructions: laid · InstMoves: laid · InstTargets: laid · InstRefuses: laid · InstBytes: laid · InstTexts: laid.
  DERIVED. THE GIVEN ROWS OF THIS SEAT. 7 by the template 'for every input the law returns true; each argument reads behind the call as it read before'; 0 by the template 'total and deterministic' (their statements: YtgpggoejkkhceaaDoorTotals.lean).
  GIVEN WITH THE SEED: the statements are not yours to turn. If you find one false, say at which input.
  Laid BY PROGRAM, IN A SANDBOX (cutbox-rows.mjs): the forced cells as the released guide's own fill.sh prints them over the translation 3fa88091690a12ea… (all of the seat's roots in one cut). By AI agents, Wed Nov 11 2026. No macro, syntax, notation, axiom, sorry.
-/
import Derived.Test.YtgpggoejkkhceaaDoorChecked
import GoSem.Claim
import GoSem.ClaimJoined
import GoSem.ClaimMapViews
import Derived.JoinedTies
import Derived.KernelRfl
namespace Go.Proofs.YtgpggoejkkhceaaDoor
/- THE CELL 'sum', in the pinned program and in every row, IS THE sha256 OF THE DUMP (.gsa) THAT YtgpggoejkkhceaaDoorProg.lean LOADS. Nothing in Lean hashes anything: it is a label: what it is worth is what the hold of that sum in a sandbox is worth. -/
noncomputable def Tryd.pinned : Pinned := { name := "ytgpggoejkkhceaadoor", sum := "3fa88091690a12ea1539c592cd21f42934000cb1043b7f39d9b698690384d7eb", checked := Tryd.checked }
namespace Rows
def none {H : Type} : Left H := { results := [], args := [] }

/- WHAT THE LISTED PACKAGE-LEVEL VARIABLES READ AS WHEN THE CALL BEGINS. Each datum BY PROGRAM (the guide's laid-datum.mjs) off the statement by which the dump's own 'gosem.cut.vars' lays the variable. In a bare row this is a premise. The card (YtgpggoejkkhceaaDoorCards.lean) ties it to the program's text. -/
def laid_math_bits_deBruijn32tab {H : Type} : DataW H := .agg [.lit (.int .u8 0), .lit (.int .u8 1), .lit (.int .u8 28), .lit (.int .u8 2), .lit (.int .u8 29), .lit (.int .u8 14), .lit (.int .u8 24), .lit (.int .u8 3), .lit (.int .u8 30), .lit (.int .u8 22), .lit (.int .u8 20), .lit (.int .u8 15), .lit (.int .u8 25), .lit (.int .u8 17), .lit (.int .u8 4), .lit (.int .u8 8), .lit (.int .u8 31), .lit (.int .u8 27), .lit (.int .u8 13), .lit (.int .u8 23), .lit (.int .u8 21), .lit (.int .u8 19), .lit (.int .u8 16), .lit (.int .u8 7), .lit (.int .u8 26), .lit (.int .u8 12), .lit (.int .u8 18), .lit (.int .u8 6), .lit (.int .u8 11), .lit (.int .u8 5), .lit (.int .u8 10), .lit (.int .u8 9)]
def laid_math_bits_deBruijn64tab {H : Type} : DataW H := .agg [.lit (.int .u8 0), .lit (.int .u8 1), .lit (.int .u8 56), .lit (.int .u8 2), .lit (.int .u8 57), .lit (.int .u8 49), .lit (.int .u8 28), .lit (.int .u8 3), .lit (.int .u8 61), .lit (.int .u8 58), .lit (.int .u8 42), .lit (.int .u8 50), .lit (.int .u8 38), .lit (.int .u8 29), .lit (.int .u8 17), .lit (.int .u8 4), .lit (.int .u8 62), .lit (.int .u8 47), .lit (.int .u8 59), .lit (.int .u8 36), .lit (.int .u8 45), .lit (.int .u8 43), .lit (.int .u8 51), .lit (.int .u8 22), .lit (.int .u8 53), .lit (.int .u8 39), .lit (.int .u8 33), .lit (.int .u8 30), .lit (.int .u8 24), .lit (.int .u8 18), .lit (.int .u8 12), .lit (.int .u8 5), .lit (.int .u8 63), .lit (.int .u8 55), .lit (.int .u8 48), .lit (.int .u8 27), .lit (.int .u8 60), .lit (.int .u8 41), .lit (.int .u8 37), .lit (.int .u8 16), .lit (.int .u8 46), .lit (.int .u8 35), .lit (.int .u8 44), .lit (.int .u8 21), .lit (.int .u8 52), .lit (.int .u8 32), .lit (.int .u8 23), .lit (.int .u8 11), .lit (.int .u8 54), .lit (.int .u8 26), .lit (.int .u8 40), .lit (.int .u8 15), .lit (.int .u8 34), .lit (.int .u8 20), .lit (.int .u8 31), .lit (.int .u8 10), .lit (.int .u8 25), .lit (.int .u8 14), .lit (.int .u8 19), .lit (.int .u8 9), .lit (.int .u8 13), .lit (.int .u8 8), .lit (.int .u8 7), .lit (.int .u8 6)]
def laid_internal_strconv_uint64pow10 {H : Type} : DataW H := .agg [.lit (.int .u64 1), .lit (.int .u64 10), .lit (.int .u64 100), .lit (.int .u64 1000), .lit (.int .u64 10000), .lit (.int .u64 100000), .lit (.int .u64 1000000), .lit (.int .u64 10000000), .lit (.int .u64 100000000), .lit (.int .u64 1000000000), .lit (.int .u64 10000000000), .lit (.int .u64 100000000000), .lit (.int .u64 1000000000000), .lit (.int .u64 10000000000000), .lit (.int .u64 100000000000000), .lit (.int .u64 1000000000000000), .lit (.int .u64 10000000000000000), .lit (.int .u64 100000000000000000), .lit (.int .u64 1000000000000000000), .lit (.int .u64 10000000000000000000)]

/-- 'inlaylaw02.InstWords': WHATEVER THE INPUT: true; the input reads as it did. -/
def instWordsSpec : ChangeSpec := { name := "instWords", fn := fun _ => fun
  | [d1, d2, d3] => { results := [.lit (.bool true)], args := [d1, d2, d3] }
  | _ => none }
def instWordsRow : OpenClaim := { program := "ytgpggoejkkhceaadoor", sum := "3fa88091690a12ea1539c592cd21f42934000cb1043b7f39d9b698690384d7eb", func := "inlay/inlaylaw02.InstWords", spec := "instWords", inPlace := ["internal/abi.NoEscape", "internal/bytealg.MakeNoZero"], unfollowed := true, recurses := true, named := ["internal/strconv.uint64pow10", "math/bits.deBruijn32tab", "math/bits.deBruijn64tab"], apart := false, laid := [("math/bits.deBruijn32tab", laid_math_bits_deBruijn32tab), ("math/bits.deBruijn64tab", laid_math_bits_deBruijn64tab), ("internal/strconv.uint64pow10", laid_internal_strconv_uint64pow10)] }
def InstWordsSaid : Prop := instWordsRow.holds Tryd.pinned (OpenSpec.ofChange instWordsSpec)

/-- ITS FALSE NEIGHBOUR: 'it returns false'. Refute it at one input. -/
def instWordsWrong : ChangeSpec := { name := "instWords", fn := fun _ => fun
  | [d1, d2, d3] => { results := [.lit (.bool false)], args := [d1, d2, d3] }
  | _ => none }
def InstWordsWrongFalsely : Prop := instWordsRow.holds Tryd.pinned (OpenSpec.ofChange instWordsWrong)

/-- 'inlaylaw02.InstInstructions': WHATEVER THE INPUT: true; the input reads as it did. -/
def instInstructionsSpec : ChangeSpec := { name := "instInstructions", fn := fun _ => fun
  | [d1, d2] => { results := [.lit (.bool true)], args := [d1, d2] }
  | _ => none }
def instInstructionsRow : OpenClaim := { program := "ytgpggoejkkhceaadoor", sum := "3fa88091690a12ea1539c592cd21f42934000cb1043b7f39d9b698690384d7eb", func := "inlay/inlaylaw02.InstInstructions", spec := "instInstructions", inPlace := ["internal/abi.NoEscape", "internal/bytealg.MakeNoZero"], unfollowed := true, recurses := true, named := ["internal/strconv.uint64pow10", "math/bits.deBruijn32tab", "math/bits.deBruijn64tab"], apart := false, laid := [("math/bits.deBruijn32tab", laid_math_bits_deBruijn32tab), ("math/bits.deBruijn64tab", laid_math_bits_deBruijn64tab), ("internal/strconv.uint64pow10", laid_internal_strconv_uint64pow10)] }
def InstInstructionsSaid : Prop := instInstructionsRow.holds Tryd.pinned (OpenSpec.ofChange instInstructionsSpec)

/-- ITS FALSE NEIGHBOUR: 'it returns false'. Refute it at one input. -/
def instInstructionsWrong : ChangeSpec := { name := "instInstructions", fn := fun _ => fun
  | [d1, d2] => { results := [.lit (.bool false)], args := [d1, d2] }
  | _ => none }
def InstInstructionsWrongFalsely : Prop := instInstructionsRow.holds Tryd.pinned (OpenSpec.ofChange instInstructionsWrong)

/-- 'inlaylaw02.InstMoves': WHATEVER THE INPUT: true; the input reads as it did. -/
def instMovesSpec : ChangeSpec := { name := "instMoves", fn := fun _ => fun
  | [d1, d2, d3] => { results := [.lit (.bool true)], args := [d1, d2, d3] }
  | _ => none }
def instMovesRow : OpenClaim := { program := "ytgpggoejkkhceaadoor", sum := "3fa88091690a12ea1539c592cd21f42934000cb1043b7f39d9b698690384d7eb", func := "inlay/inlaylaw02.InstMoves", spec := "instMoves", inPlace := ["internal/abi.NoEscape", "internal/bytealg.MakeNoZero"], unfollowed := true, recurses := true, named := ["internal/strconv.uint64pow10", "math/bits.deBruijn32tab", "math/bits.deBruijn64tab"], apart := false, laid := [("math/bits.deBruijn32tab", laid_math_bits_deBruijn32tab), ("math/bits.deBruijn64tab", laid_math_bits_deBruijn64tab), ("internal/strconv.uint64pow10", laid_internal_strconv_uint64pow10)] }
def InstMovesSaid : Prop := instMovesRow.holds Tryd.pinned (OpenSpec.ofChange instMovesSpec)

/-- ITS FALSE NEIGHBOUR: 'it returns false'. Refute it at one input. -/
def instMovesWrong : ChangeSpec := { name := "instMoves", fn := fun _ => fun
  | [d1, d2, d3] => { results := [.lit (.bool false)], args := [d1, d2, d3] }
  | _ => none }
def InstMovesWrongFalsely : Prop := instMovesRow.holds Tryd.pinned (OpenSpec.ofChange instMovesWrong)

/-- 'inlaylaw02.InstTargets': WHATEVER THE INPUT: true; the input reads as it did. -/
def instTargetsSpec : ChangeSpec := { name := "instTargets", fn := fun _ => fun
  | [d1, d2, d3] => { results := [.lit (.bool true)], args := [d1, d2, d3] }
  | _ => none }
def instTargetsRow : OpenClaim := { program := "ytgpggoejkkhceaadoor", sum := "3fa88091690a12ea1539c592cd21f42934000cb1043b7f39d9b698690384d7eb", func := "inlay/inlaylaw02.InstTargets", spec := "instTargets", inPlace := ["internal/abi.NoEscape", "internal/bytealg.MakeNoZero"], unfollowed := true, recurses := true, named := ["internal/strconv.uint64pow10", "math/bits.deBruijn32tab", "math/bits.deBruijn64tab"], apart := false, laid := [("math/bits.deBruijn32tab", laid_math_bits_deBruijn32tab), ("math/bits.deBruijn64tab", laid_math_bits_deBruijn64tab), ("internal/strconv.uint64pow10", laid_internal_strconv_uint64pow10)] }
def InstTargetsSaid : Prop := instTargetsRow.holds Tryd.pinned (OpenSpec.ofChange instTargetsSpec)

/-- ITS FALSE NEIGHBOUR: 'it returns false'. Refute it at one input. -/
def instTargetsWrong : ChangeSpec := { name := "instTargets", fn := fun _ => fun
  | [d1, d2, d3] => { results := [.lit (.bool false)], args := [d1, d2, d3] }
  | _ => none }
def InstTargetsWrongFalsely : Prop := instTargetsRow.holds Tryd.pinned (OpenSpec.ofChange instTargetsWrong)

/-- 'inlaylaw02.InstRefuses': WHATEVER THE INPUT: true; the input reads as it did. -/
def instRefusesSpec : ChangeSpec := { name := "instRefuses", fn := fun _ => fun
  | [d1, d2, d3] => { results := [.lit (.bool true)], args := [d1, d2, d3] }
  | _ => none }
def instRefusesRow : OpenClaim := { program := "ytgpggoejkkhceaadoor", sum := "3fa88091690a12ea1539c592cd21f42934000cb1043b7f39d9b698690384d7eb", func := "inlay/inlaylaw02.InstRefuses", spec := "instRefuses", inPlace := ["internal/abi.NoEscape", "internal/bytealg.MakeNoZero"], unfollowed := true, recurses := true, named := ["internal/strconv.uint64pow10", "math/bits.deBruijn32tab", "math/bits.deBruijn64tab"], apart := false, laid := [("math/bits.deBruijn32tab", laid_math_bits_deBruijn32tab), ("math/bits.deBruijn64tab", laid_math_bits_deBruijn64tab), ("internal/strconv.uint64pow10", laid_internal_strconv_uint64pow10)] }
def InstRefusesSaid : Prop := instRefusesRow.holds Tryd.pinned (OpenSpec.ofChange instRefusesSpec)

/-- ITS FALSE NEIGHBOUR: 'it returns false'. Refute it at one input. -/
def instRefusesWrong : ChangeSpec := { name := "instRefuses", fn := fun _ => fun
  | [d1, d2, d3] => { results := [.lit (.bool false)], args := [d1, d2, d3] }
  | _ => none }
def InstRefusesWrongFalsely : Prop := instRefusesRow.holds Tryd.pinned (OpenSpec.ofChange instRefusesWrong)

/-- 'inlaylaw02.InstBytes': WHATEVER THE INPUT: true; the input reads as it did. -/
def instBytesSpec : ChangeSpec := { name := "instBytes", fn := fun _ => fun
  | [d1, d2] => { results := [.lit (.bool true)], args := [d1, d2] }
  | _ => none }
def instBytesRow : OpenClaim := { program := "ytgpggoejkkhceaadoor", sum := "3fa88091690a12ea1539c592cd21f42934000cb1043b7f39d9b698690384d7eb", func := "inlay/inlaylaw02.InstBytes", spec := "instBytes", inPlace := ["internal/abi.NoEscape", "internal/bytealg.MakeNoZero"], unfollowed := true, recurses := true, named := ["internal/strconv.uint64pow10", "math/bits.deBruijn32tab", "math/bits.deBruijn64tab"], apart := false, laid := [("math/bits.deBruijn32tab", laid_math_bits_deBruijn32tab), ("math/bits.deBruijn64tab", laid_math_bits_deBruijn64tab), ("internal/strconv.uint64pow10", laid_internal_strconv_uint64pow10)] }
def InstBytesSaid : Prop := instBytesRow.holds Tryd.pinned (OpenSpec.ofChange instBytesSpec)

/-- ITS FALSE NEIGHBOUR: 'it returns false'. Refute it at one input. -/
def instBytesWrong : ChangeSpec := { name := "instBytes", fn := fun _ => fun
  | [d1, d2] => { results := [.lit (.bool false)], args := [d1, d2] }
  | _ => none }
def InstBytesWrongFalsely : Prop := instBytesRow.holds Tryd.pinned (OpenSpec.ofChange instBytesWrong)

/-- 'inlaylaw02.InstTexts': WHATEVER THE INPUT: true; the input reads as it did. -/
def instTextsSpec : ChangeSpec := { name := "instTexts", fn := fun _ => fun
  | [d1, d2, d3] => { results := [.lit (.bool true)], args := [d1, d2, d3] }
  | _ => none }
def instTextsRow : OpenClaim := { program := "ytgpggoejkkhceaadoor", sum := "3fa88091690a12ea1539c592cd21f42934000cb1043b7f39d9b698690384d7eb", func := "inlay/inlaylaw02.InstTexts", spec := "instTexts", inPlace := ["internal/abi.NoEscape", "internal/bytealg.MakeNoZero"], unfollowed := true, recurses := true, named := ["internal/strconv.uint64pow10", "math/bits.deBruijn32tab", "math/bits.deBruijn64tab"], apart := false, laid := [("math/bits.deBruijn32tab", laid_math_bits_deBruijn32tab), ("math/bits.deBruijn64tab", laid_math_bits_deBruijn64tab), ("internal/strconv.uint64pow10", laid_internal_strconv_uint64pow10)] }
def InstTextsSaid : Prop := instTextsRow.holds Tryd.pinned (OpenSpec.ofChange instTextsSpec)

/-- ITS FALSE NEIGHBOUR: 'it returns false'. Refute it at one input. -/
def instTextsWrong : ChangeSpec := { name := "instTexts", fn := fun _ => fun
  | [d1, d2, d3] => { results := [.lit (.bool false)], args := [d1, d2, d3] }
  | _ => none }
def InstTextsWrongFalsely : Prop := instTextsRow.holds Tryd.pinned (OpenSpec.ofChange instTextsWrong)

/- THE SECOND FORM. 'bulk': how many values and letters a reading holds, each counted each time it is reached (what is shared counts as often as it is met; a slice's spare places count too). A statement '..UptoSaid' is the law's where the arguments, and the package variables that the reading takes, are together of bulk at most 1048576: NARROWER than '..Said'. Prove '..Said' where nothing that the law and all that it calls make is longer than what came in: it says more and counts as full. Else prove '..UptoSaid'. A law counts once. -/
mutual
def uptoBulk {H : Type} : DataW H → Nat
  | .lit (.string bytes) => bytes.length + 1
  | .lit _ => 1
  | .nil => 1
  | .ptr d => uptoBulk d + 1
  | .slice elems spare => uptoBulkAll elems + uptoBulkAll spare + 1
  | .agg parts => uptoBulkAll parts + 1
  | .iface _ d => uptoBulk d + 1
  | .map entries => uptoBulkEntries entries + 1
  | .held _ => 1
def uptoBulkAll {H : Type} : List (DataW H) → Nat
  | [] => 0
  | d :: r => uptoBulk d + uptoBulkAll r
def uptoBulkEntries {H : Type} : List (Lit × DataW H) → Nat
  | [] => 0
  | x :: r => uptoBulkEntry x + uptoBulkEntries r
def uptoBulkEntry {H : Type} : Lit × DataW H → Nat
  | (.string bytes, d) => bytes.length + uptoBulk d + 1
  | (_, d) => uptoBulk d + 1
 end
def uptoSmall : (H : Type) → List (DataW H) → Bool := fun _ ds => decide (uptoBulkAll ds ≤ 1048576)
def OpenSpec.upto (s : _root_.Go.ChangeSpec) : _root_.Go.OpenSpec := { _root_.Go.OpenSpec.ofChange s with cond := some uptoSmall }

/-- 'inlaylaw02.InstWords', WHERE WHAT IT READS IS OF BULK AT MOST 1048576: true; the input reads as it did. -/
def instWordsUptoRow : OpenClaim := { program := "ytgpggoejkkhceaadoor", sum := "3fa88091690a12ea1539c592cd21f42934000cb1043b7f39d9b698690384d7eb", func := "inlay/inlaylaw02.InstWords", spec := "instWords", inPlace := ["internal/abi.NoEscape", "internal/bytealg.MakeNoZero"], unfollowed := true, recurses := true, named := ["internal/strconv.uint64pow10", "math/bits.deBruijn32tab", "math/bits.deBruijn64tab"], apart := false, laid := [("math/bits.deBruijn32tab", laid_math_bits_deBruijn32tab), ("math/bits.deBruijn64tab", laid_math_bits_deBruijn64tab), ("internal/strconv.uint64pow10", laid_internal_strconv_uint64pow10)], narrowed := true }
def InstWordsUptoSaid : Prop := instWordsUptoRow.holds Tryd.pinned (OpenSpec.upto instWordsSpec)

/-- 'inlaylaw02.InstInstructions', WHERE WHAT IT READS IS OF BULK AT MOST 1048576: true; the input reads as it did. -/
def instInstructionsUptoRow : OpenClaim := { program := "ytgpggoejkkhceaadoor", sum := "3fa88091690a12ea1539c592cd21f42934000cb1043b7f39d9b698690384d7eb", func := "inlay/inlaylaw02.InstInstructions", spec := "instInstructions", inPlace := ["internal/abi.NoEscape", "internal/bytealg.MakeNoZero"], unfollowed := true, recurses := true, named := ["internal/strconv.uint64pow10", "math/bits.deBruijn32tab", "math/bits.deBruijn64tab"], apart := false, laid := [("math/bits.deBruijn32tab", laid_math_bits_deBruijn32tab), ("math/bits.deBruijn64tab", laid_math_bits_deBruijn64tab), ("internal/strconv.uint64pow10", laid_internal_strconv_uint64pow10)], narrowed := true }
def InstInstructionsUptoSaid : Prop := instInstructionsUptoRow.holds Tryd.pinned (OpenSpec.upto instInstructionsSpec)

/-- 'inlaylaw02.InstMoves', WHERE WHAT IT READS IS OF BULK AT MOST 1048576: true; the input reads as it did. -/
def instMovesUptoRow : OpenClaim := { program := "ytgpggoejkkhceaadoor", sum := "3fa88091690a12ea1539c592cd21f42934000cb1043b7f39d9b698690384d7eb", func := "inlay/inlaylaw02.InstMoves", spec := "instMoves", inPlace := ["internal/abi.NoEscape", "internal/bytealg.MakeNoZero"], unfollowed := true, recurses := true, named := ["internal/strconv.uint64pow10", "math/bits.deBruijn32tab", "math/bits.deBruijn64tab"], apart := false, laid := [("math/bits.deBruijn32tab", laid_math_bits_deBruijn32tab), ("math/bits.deBruijn64tab", laid_math_bits_deBruijn64tab), ("internal/strconv.uint64pow10", laid_internal_strconv_uint64pow10)], narrowed := true }
def InstMovesUptoSaid : Prop := instMovesUptoRow.holds Tryd.pinned (OpenSpec.upto instMovesSpec)

/-- 'inlaylaw02.InstTargets', WHERE WHAT IT READS IS OF BULK AT MOST 1048576: true; the input reads as it did. -/
def instTargetsUptoRow : OpenClaim := { program := "ytgpggoejkkhceaadoor", sum := "3fa88091690a12ea1539c592cd21f42934000cb1043b7f39d9b698690384d7eb", func := "inlay/inlaylaw02.InstTargets", spec := "instTargets", inPlace := ["internal/abi.NoEscape", "internal/bytealg.MakeNoZero"], unfollowed := true, recurses := true, named := ["internal/strconv.uint64pow10", "math/bits.deBruijn32tab", "math/bits.deBruijn64tab"], apart := false, laid := [("math/bits.deBruijn32tab", laid_math_bits_deBruijn32tab), ("math/bits.deBruijn64tab", laid_math_bits_deBruijn64tab), ("internal/strconv.uint64pow10", laid_internal_strconv_uint64pow10)], narrowed := true }
def InstTargetsUptoSaid : Prop := instTargetsUptoRow.holds Tryd.pinned (OpenSpec.upto instTargetsSpec)

/-- 'inlaylaw02.InstRefuses', WHERE WHAT IT READS IS OF BULK AT MOST 1048576: true; the input reads as it did. -/
def instRefusesUptoRow : OpenClaim := { program := "ytgpggoejkkhceaadoor", sum := "3fa88091690a12ea1539c592cd21f42934000cb1043b7f39d9b698690384d7eb", func := "inlay/inlaylaw02.InstRefuses", spec := "instRefuses", inPlace := ["internal/abi.NoEscape", "internal/bytealg.MakeNoZero"], unfollowed := true, recurses := true, named := ["internal/strconv.uint64pow10", "math/bits.deBruijn32tab", "math/bits.deBruijn64tab"], apart := false, laid := [("math/bits.deBruijn32tab", laid_math_bits_deBruijn32tab), ("math/bits.deBruijn64tab", laid_math_bits_deBruijn64tab), ("internal/strconv.uint64pow10", laid_internal_strconv_uint64pow10)], narrowed := true }
def InstRefusesUptoSaid : Prop := instRefusesUptoRow.holds Tryd.pinned (OpenSpec.upto instRefusesSpec)

/-- 'inlaylaw02.InstBytes', WHERE WHAT IT READS IS OF BULK AT MOST 1048576: true; the input reads as it did. -/
def instBytesUptoRow : OpenClaim := { program := "ytgpggoejkkhceaadoor", sum := "3fa88091690a12ea1539c592cd21f42934000cb1043b7f39d9b698690384d7eb", func := "inlay/inlaylaw02.InstBytes", spec := "instBytes", inPlace := ["internal/abi.NoEscape", "internal/bytealg.MakeNoZero"], unfollowed := true, recurses := true, named := ["internal/strconv.uint64pow10", "math/bits.deBruijn32tab", "math/bits.deBruijn64tab"], apart := false, laid := [("math/bits.deBruijn32tab", laid_math_bits_deBruijn32tab), ("math/bits.deBruijn64tab", laid_math_bits_deBruijn64tab), ("internal/strconv.uint64pow10", laid_internal_strconv_uint64pow10)], narrowed := true }
def InstBytesUptoSaid : Prop := instBytesUptoRow.holds Tryd.pinned (OpenSpec.upto instBytesSpec)

/-- 'inlaylaw02.InstTexts', WHERE WHAT IT READS IS OF BULK AT MOST 1048576: true; the input reads as it did. -/
def instTextsUptoRow : OpenClaim := { program := "ytgpggoejkkhceaadoor", sum := "3fa88091690a12ea1539c592cd21f42934000cb1043b7f39d9b698690384d7eb", func := "inlay/inlaylaw02.InstTexts", spec := "instTexts", inPlace := ["internal/abi.NoEscape", "internal/bytealg.MakeNoZero"], unfollowed := true, recurses := true, named := ["internal/strconv.uint64pow10", "math/bits.deBruijn32tab", "math/bits.deBruijn64tab"], apart := false, laid := [("math/bits.deBruijn32tab", laid_math_bits_deBruijn32tab), ("math/bits.deBruijn64tab", laid_math_bits_deBruijn64tab), ("internal/strconv.uint64pow10", laid_internal_strconv_uint64pow10)], narrowed := true }
def InstTextsUptoSaid : Prop := instTextsUptoRow.holds Tryd.pinned (OpenSpec.upto instTextsSpec)

end Rows
end Go.Proofs.YtgpggoejkkhceaaDoor
