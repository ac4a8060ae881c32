/-
  NARROWER THAN 'FOR EVERY INPUT', by the rows' own cells (each row's printed sentence says how): CoderMatchesReference: laid · CoderInverts: laid · CoderCodes: laid · CoderDiffers: laid · CoderSizes: laid · CoderZeros: laid · CoderTables: laid.
  DERIVED. THE GIVEN ROWS OF THIS SEAT. 7 by the template 'for every input the law returns true; each argument reads behind the call as it read before'; 0 by the template 'total and deterministic' (their statements: YtcnpgmohnclojaaDoorTotals.lean).
  GIVEN WITH THE SEED: the statements are not yours to turn. If you find one false, say at which input.
  Laid BY PROGRAM, IN A SANDBOX (cutbox-rows.mjs): the forced cells as the released guide's own fill.sh prints them over the translation 4f603482f97bfc51… (all of the seat's roots in one cut). By AI agents, Wed Nov 11 2026. No macro, syntax, notation, axiom, sorry.
-/
import Derived.Test.YtcnpgmohnclojaaDoorChecked
import GoSem.PinnedTables
import GoSem.Claim
import GoSem.ClaimJoined
import GoSem.ClaimMapViews
import Derived.JoinedTies
import Derived.KernelRfl
namespace Go.Proofs.YtcnpgmohnclojaaDoor
/- THE CELL 'sum', in the pinned program and in every row, IS THE sha256 OF THE DUMP (.gsa) THAT YtcnpgmohnclojaaDoorProg.lean LOADS. Nothing in Lean hashes anything: it is a label: what it is worth is what the hold of that sum in a sandbox is worth. -/
noncomputable def Tryd.pinned : Pinned := { name := "ytcnpgmohnclojaadoor", sum := "4f603482f97bfc51a47602b13d81b94c10fccaefb43316035c2615ce1c031509", checked := Tryd.checked }
namespace Rows
def none {H : Type} : Left H := { results := [], args := [] }

/- WHAT THE LISTED PACKAGE-LEVEL VARIABLES READ AS WHEN THE CALL BEGINS. Each datum BY PROGRAM (the guide's laid-datum.mjs) off the statement by which the dump's own 'gosem.cut.vars' lays the variable. In a bare row this is a premise. The card (YtcnpgmohnclojaaDoorCards.lean) ties it to the program's text. -/
def laid_unicode_utf8_acceptRanges {H : Type} : DataW H := .agg [.agg [.lit (.int .u8 128), .lit (.int .u8 191)], .agg [.lit (.int .u8 160), .lit (.int .u8 191)], .agg [.lit (.int .u8 128), .lit (.int .u8 159)], .agg [.lit (.int .u8 144), .lit (.int .u8 191)], .agg [.lit (.int .u8 128), .lit (.int .u8 143)], .agg [.lit (.int .u8 0), .lit (.int .u8 0)], .agg [.lit (.int .u8 0), .lit (.int .u8 0)], .agg [.lit (.int .u8 0), .lit (.int .u8 0)], .agg [.lit (.int .u8 0), .lit (.int .u8 0)], .agg [.lit (.int .u8 0), .lit (.int .u8 0)], .agg [.lit (.int .u8 0), .lit (.int .u8 0)], .agg [.lit (.int .u8 0), .lit (.int .u8 0)], .agg [.lit (.int .u8 0), .lit (.int .u8 0)], .agg [.lit (.int .u8 0), .lit (.int .u8 0)], .agg [.lit (.int .u8 0), .lit (.int .u8 0)], .agg [.lit (.int .u8 0), .lit (.int .u8 0)]]
/-- One of Go's own tables, pinned by name: the form's constant. -/
def laid_unicode_utf8_first : DataW Unit := Go.Pinned.utf8First

/-- 'inlaylaw13.CoderMatchesReference': WHATEVER THE INPUT: true; the input reads as it did. -/
def coderMatchesReferenceSpec : ChangeSpec := { name := "coderMatchesReference", fn := fun _ => fun
  | [d1, d2, d3] => { results := [.lit (.bool true)], args := [d1, d2, d3] }
  | _ => none }
def coderMatchesReferenceRow : OpenClaim := { program := "ytcnpgmohnclojaadoor", sum := "4f603482f97bfc51a47602b13d81b94c10fccaefb43316035c2615ce1c031509", func := "inlay/inlaylaw13.CoderMatchesReference", spec := "coderMatchesReference", unfollowed := true, recurses := true, named := ["unicode/utf8.first", "unicode/utf8.acceptRanges"], apart := false, laid := [("unicode/utf8.acceptRanges", laid_unicode_utf8_acceptRanges), ("unicode/utf8.first", laid_unicode_utf8_first)] }
def CoderMatchesReferenceSaid : Prop := coderMatchesReferenceRow.holds Tryd.pinned (OpenSpec.ofChange coderMatchesReferenceSpec)

/-- ITS FALSE NEIGHBOUR: 'it returns false'. Refute it at one input. -/
def coderMatchesReferenceWrong : ChangeSpec := { name := "coderMatchesReference", fn := fun _ => fun
  | [d1, d2, d3] => { results := [.lit (.bool false)], args := [d1, d2, d3] }
  | _ => none }
def CoderMatchesReferenceWrongFalsely : Prop := coderMatchesReferenceRow.holds Tryd.pinned (OpenSpec.ofChange coderMatchesReferenceWrong)

/-- 'inlaylaw13.CoderInverts': WHATEVER THE INPUT: true; the input reads as it did. -/
def coderInvertsSpec : ChangeSpec := { name := "coderInverts", fn := fun _ => fun
  | [d1, d2] => { results := [.lit (.bool true)], args := [d1, d2] }
  | _ => none }
def coderInvertsRow : OpenClaim := { program := "ytcnpgmohnclojaadoor", sum := "4f603482f97bfc51a47602b13d81b94c10fccaefb43316035c2615ce1c031509", func := "inlay/inlaylaw13.CoderInverts", spec := "coderInverts", unfollowed := true, recurses := true, named := ["unicode/utf8.first", "unicode/utf8.acceptRanges"], apart := false, laid := [("unicode/utf8.acceptRanges", laid_unicode_utf8_acceptRanges), ("unicode/utf8.first", laid_unicode_utf8_first)] }
def CoderInvertsSaid : Prop := coderInvertsRow.holds Tryd.pinned (OpenSpec.ofChange coderInvertsSpec)

/-- ITS FALSE NEIGHBOUR: 'it returns false'. Refute it at one input. -/
def coderInvertsWrong : ChangeSpec := { name := "coderInverts", fn := fun _ => fun
  | [d1, d2] => { results := [.lit (.bool false)], args := [d1, d2] }
  | _ => none }
def CoderInvertsWrongFalsely : Prop := coderInvertsRow.holds Tryd.pinned (OpenSpec.ofChange coderInvertsWrong)

/-- 'inlaylaw13.CoderCodes': WHATEVER THE INPUT: true; the input reads as it did. -/
def coderCodesSpec : ChangeSpec := { name := "coderCodes", fn := fun _ => fun
  | [d1, d2, d3] => { results := [.lit (.bool true)], args := [d1, d2, d3] }
  | _ => none }
def coderCodesRow : OpenClaim := { program := "ytcnpgmohnclojaadoor", sum := "4f603482f97bfc51a47602b13d81b94c10fccaefb43316035c2615ce1c031509", func := "inlay/inlaylaw13.CoderCodes", spec := "coderCodes", unfollowed := true, recurses := true, named := ["unicode/utf8.first", "unicode/utf8.acceptRanges"], apart := false, laid := [("unicode/utf8.acceptRanges", laid_unicode_utf8_acceptRanges), ("unicode/utf8.first", laid_unicode_utf8_first)] }
def CoderCodesSaid : Prop := coderCodesRow.holds Tryd.pinned (OpenSpec.ofChange coderCodesSpec)

/-- ITS FALSE NEIGHBOUR: 'it returns false'. Refute it at one input. -/
def coderCodesWrong : ChangeSpec := { name := "coderCodes", fn := fun _ => fun
  | [d1, d2, d3] => { results := [.lit (.bool false)], args := [d1, d2, d3] }
  | _ => none }
def CoderCodesWrongFalsely : Prop := coderCodesRow.holds Tryd.pinned (OpenSpec.ofChange coderCodesWrong)

/-- 'inlaylaw13.CoderDiffers': WHATEVER THE INPUT: true; the input reads as it did. -/
def coderDiffersSpec : ChangeSpec := { name := "coderDiffers", fn := fun _ => fun
  | [d1, d2, d3] => { results := [.lit (.bool true)], args := [d1, d2, d3] }
  | _ => none }
def coderDiffersRow : OpenClaim := { program := "ytcnpgmohnclojaadoor", sum := "4f603482f97bfc51a47602b13d81b94c10fccaefb43316035c2615ce1c031509", func := "inlay/inlaylaw13.CoderDiffers", spec := "coderDiffers", unfollowed := true, recurses := true, named := ["unicode/utf8.first", "unicode/utf8.acceptRanges"], apart := false, laid := [("unicode/utf8.acceptRanges", laid_unicode_utf8_acceptRanges), ("unicode/utf8.first", laid_unicode_utf8_first)] }
def CoderDiffersSaid : Prop := coderDiffersRow.holds Tryd.pinned (OpenSpec.ofChange coderDiffersSpec)

/-- ITS FALSE NEIGHBOUR: 'it returns false'. Refute it at one input. -/
def coderDiffersWrong : ChangeSpec := { name := "coderDiffers", fn := fun _ => fun
  | [d1, d2, d3] => { results := [.lit (.bool false)], args := [d1, d2, d3] }
  | _ => none }
def CoderDiffersWrongFalsely : Prop := coderDiffersRow.holds Tryd.pinned (OpenSpec.ofChange coderDiffersWrong)

/-- 'inlaylaw13.CoderSizes': WHATEVER THE INPUT: true; the input reads as it did. -/
def coderSizesSpec : ChangeSpec := { name := "coderSizes", fn := fun _ => fun
  | [d] => { results := [.lit (.bool true)], args := [d] }
  | _ => none }
def coderSizesRow : OpenClaim := { program := "ytcnpgmohnclojaadoor", sum := "4f603482f97bfc51a47602b13d81b94c10fccaefb43316035c2615ce1c031509", func := "inlay/inlaylaw13.CoderSizes", spec := "coderSizes", unfollowed := true, recurses := true, named := ["unicode/utf8.first", "unicode/utf8.acceptRanges"], apart := false, laid := [("unicode/utf8.acceptRanges", laid_unicode_utf8_acceptRanges), ("unicode/utf8.first", laid_unicode_utf8_first)] }
def CoderSizesSaid : Prop := coderSizesRow.holds Tryd.pinned (OpenSpec.ofChange coderSizesSpec)

/-- ITS FALSE NEIGHBOUR: 'it returns false'. Refute it at one input. -/
def coderSizesWrong : ChangeSpec := { name := "coderSizes", fn := fun _ => fun
  | [d] => { results := [.lit (.bool false)], args := [d] }
  | _ => none }
def CoderSizesWrongFalsely : Prop := coderSizesRow.holds Tryd.pinned (OpenSpec.ofChange coderSizesWrong)

/-- 'inlaylaw13.CoderZeros': WHATEVER THE INPUT: true; the input reads as it did. -/
def coderZerosSpec : ChangeSpec := { name := "coderZeros", fn := fun _ => fun
  | [d1, d2, d3] => { results := [.lit (.bool true)], args := [d1, d2, d3] }
  | _ => none }
def coderZerosRow : OpenClaim := { program := "ytcnpgmohnclojaadoor", sum := "4f603482f97bfc51a47602b13d81b94c10fccaefb43316035c2615ce1c031509", func := "inlay/inlaylaw13.CoderZeros", spec := "coderZeros", unfollowed := true, recurses := true, named := ["unicode/utf8.first", "unicode/utf8.acceptRanges"], apart := false, laid := [("unicode/utf8.acceptRanges", laid_unicode_utf8_acceptRanges), ("unicode/utf8.first", laid_unicode_utf8_first)] }
def CoderZerosSaid : Prop := coderZerosRow.holds Tryd.pinned (OpenSpec.ofChange coderZerosSpec)

/-- ITS FALSE NEIGHBOUR: 'it returns false'. Refute it at one input. -/
def coderZerosWrong : ChangeSpec := { name := "coderZeros", fn := fun _ => fun
  | [d1, d2, d3] => { results := [.lit (.bool false)], args := [d1, d2, d3] }
  | _ => none }
def CoderZerosWrongFalsely : Prop := coderZerosRow.holds Tryd.pinned (OpenSpec.ofChange coderZerosWrong)

/-- 'inlaylaw13.CoderTables': WHATEVER THE INPUT: true; the input reads as it did. -/
def coderTablesSpec : ChangeSpec := { name := "coderTables", fn := fun _ => fun
  | [d1, d2, d3] => { results := [.lit (.bool true)], args := [d1, d2, d3] }
  | _ => none }
def coderTablesRow : OpenClaim := { program := "ytcnpgmohnclojaadoor", sum := "4f603482f97bfc51a47602b13d81b94c10fccaefb43316035c2615ce1c031509", func := "inlay/inlaylaw13.CoderTables", spec := "coderTables", unfollowed := true, recurses := true, named := ["unicode/utf8.first", "unicode/utf8.acceptRanges"], apart := false, laid := [("unicode/utf8.acceptRanges", laid_unicode_utf8_acceptRanges), ("unicode/utf8.first", laid_unicode_utf8_first)] }
def CoderTablesSaid : Prop := coderTablesRow.holds Tryd.pinned (OpenSpec.ofChange coderTablesSpec)

/-- ITS FALSE NEIGHBOUR: 'it returns false'. Refute it at one input. -/
def coderTablesWrong : ChangeSpec := { name := "coderTables", fn := fun _ => fun
  | [d1, d2, d3] => { results := [.lit (.bool false)], args := [d1, d2, d3] }
  | _ => none }
def CoderTablesWrongFalsely : Prop := coderTablesRow.holds Tryd.pinned (OpenSpec.ofChange coderTablesWrong)

/- THE SECOND FORM. 'bulk': how many values and letters a reading holds, each counted each time it is reached (what is shared counts as often as it is met; a slice's spare places count too). A statement '..UptoSaid' is the law's where the arguments, and the package variables that the reading takes, are together of bulk at most 1048576: NARROWER than '..Said'. Prove '..Said' where nothing that the law and all that it calls make is longer than what came in: it says more and counts as full. Else prove '..UptoSaid'. A law counts once. -/
mutual
def uptoBulk {H : Type} : DataW H → Nat
  | .lit (.string bytes) => bytes.length + 1
  | .lit _ => 1
  | .nil => 1
  | .ptr d => uptoBulk d + 1
  | .slice elems spare => uptoBulkAll elems + uptoBulkAll spare + 1
  | .agg parts => uptoBulkAll parts + 1
  | .iface _ d => uptoBulk d + 1
  | .map entries => uptoBulkEntries entries + 1
  | .held _ => 1
def uptoBulkAll {H : Type} : List (DataW H) → Nat
  | [] => 0
  | d :: r => uptoBulk d + uptoBulkAll r
def uptoBulkEntries {H : Type} : List (Lit × DataW H) → Nat
  | [] => 0
  | x :: r => uptoBulkEntry x + uptoBulkEntries r
def uptoBulkEntry {H : Type} : Lit × DataW H → Nat
  | (.string bytes, d) => bytes.length + uptoBulk d + 1
  | (_, d) => uptoBulk d + 1
 end
def uptoSmall : (H : Type) → List (DataW H) → Bool := fun _ ds => decide (uptoBulkAll ds ≤ 1048576)
def OpenSpec.upto (s : _root_.Go.ChangeSpec) : _root_.Go.OpenSpec := { _root_.Go.OpenSpec.ofChange s with cond := some uptoSmall }

/-- 'inlaylaw13.CoderMatchesReference', WHERE WHAT IT READS IS OF BULK AT MOST 1048576: true; the input reads as it did. -/
def coderMatchesReferenceUptoRow : OpenClaim := { program := "ytcnpgmohnclojaadoor", sum := "4f603482f97bfc51a47602b13d81b94c10fccaefb43316035c2615ce1c031509", func := "inlay/inlaylaw13.CoderMatchesReference", spec := "coderMatchesReference", unfollowed := true, recurses := true, named := ["unicode/utf8.first", "unicode/utf8.acceptRanges"], apart := false, laid := [("unicode/utf8.acceptRanges", laid_unicode_utf8_acceptRanges), ("unicode/utf8.first", laid_unicode_utf8_first)], narrowed := true }
def CoderMatchesReferenceUptoSaid : Prop := coderMatchesReferenceUptoRow.holds Tryd.pinned (OpenSpec.upto coderMatchesReferenceSpec)

/-- 'inlaylaw13.CoderInverts', WHERE WHAT IT READS IS OF BULK AT MOST 1048576: true; the input reads as it did. -/
def coderInvertsUptoRow : OpenClaim := { program := "ytcnpgmohnclojaadoor", sum := "4f603482f97bfc51a47602b13d81b94c10fccaefb43316035c2615ce1c031509", func := "inlay/inlaylaw13.CoderInverts", spec := "coderInverts", unfollowed := true, recurses := true, named := ["unicode/utf8.first", "unicode/utf8.acceptRanges"], apart := false, laid := [("unicode/utf8.acceptRanges", laid_unicode_utf8_acceptRanges), ("unicode/utf8.first", laid_unicode_utf8_first)], narrowed := true }
def CoderInvertsUptoSaid : Prop := coderInvertsUptoRow.holds Tryd.pinned (OpenSpec.upto coderInvertsSpec)

/-- 'inlaylaw13.CoderCodes', WHERE WHAT IT READS IS OF BULK AT MOST 1048576: true; the input reads as it did. -/
def coderCodesUptoRow : OpenClaim := { program := "ytcnpgmohnclojaadoor", sum := "4f603482f97bfc51a47602b13d81b94c10fccaefb43316035c2615ce1c031509", func := "inlay/inlaylaw13.CoderCodes", spec := "coderCodes", unfollowed := true, recurses := true, named := ["unicode/utf8.first", "unicode/utf8.acceptRanges"], apart := false, laid := [("unicode/utf8.acceptRanges", laid_unicode_utf8_acceptRanges), ("unicode/utf8.first", laid_unicode_utf8_first)], narrowed := true }
def CoderCodesUptoSaid : Prop := coderCodesUptoRow.holds Tryd.pinned (OpenSpec.upto coderCodesSpec)

/-- 'inlaylaw13.CoderDiffers', WHERE WHAT IT READS IS OF BULK AT MOST 1048576: true; the input reads as it did. -/
def coderDiffersUptoRow : OpenClaim := { program := "ytcnpgmohnclojaadoor", sum := "4f603482f97bfc51a47602b13d81b94c10fccaefb43316035c2615ce1c031509", func := "inlay/inlaylaw13.CoderDiffers", spec := "coderDiffers", unfollowed := true, recurses := true, named := ["unicode/utf8.first", "unicode/utf8.acceptRanges"], apart := false, laid := [("unicode/utf8.acceptRanges", laid_unicode_utf8_acceptRanges), ("unicode/utf8.first", laid_unicode_utf8_first)], narrowed := true }
def CoderDiffersUptoSaid : Prop := coderDiffersUptoRow.holds Tryd.pinned (OpenSpec.upto coderDiffersSpec)

/-- 'inlaylaw13.CoderSizes', WHERE WHAT IT READS IS OF BULK AT MOST 1048576: true; the input reads as it did. -/
def coderSizesUptoRow : OpenClaim := { program := "ytcnpgmohnclojaadoor", sum := "4f603482f97bfc51a47602b13d81b94c10fccaefb43316035c2615ce1c031509", func := "inlay/inlaylaw13.CoderSizes", spec := "coderSizes", unfollowed := true, recurses := true, named := ["unicode/utf8.first", "unicode/utf8.acceptRanges"], apart := false, laid := [("unicode/utf8.acceptRanges", laid_unicode_utf8_acceptRanges), ("unicode/utf8.first", laid_unicode_utf8_first)], narrowed := true }
def CoderSizesUptoSaid : Prop := coderSizesUptoRow.holds Tryd.pinned (OpenSpec.upto coderSizesSpec)

/-- 'inlaylaw13.CoderZeros', WHERE WHAT IT READS IS OF BULK AT MOST 1048576: true; the input reads as it did. -/
def coderZerosUptoRow : OpenClaim := { program := "ytcnpgmohnclojaadoor", sum := "4f603482f97bfc51a47602b13d81b94c10fccaefb43316035c2615ce1c031509", func := "inlay/inlaylaw13.CoderZeros", spec := "coderZeros", unfollowed := true, recurses := true, named := ["unicode/utf8.first", "unicode/utf8.acceptRanges"], apart := false, laid := [("unicode/utf8.acceptRanges", laid_unicode_utf8_acceptRanges), ("unicode/utf8.first", laid_unicode_utf8_first)], narrowed := true }
def CoderZerosUptoSaid : Prop := coderZerosUptoRow.holds Tryd.pinned (OpenSpec.upto coderZerosSpec)

/-- 'inlaylaw13.CoderTables', WHERE WHAT IT READS IS OF BULK AT MOST 1048576: true; the input reads as it did. -/
def coderTablesUptoRow : OpenClaim := { program := "ytcnpgmohnclojaadoor", sum := "4f603482f97bfc51a47602b13d81b94c10fccaefb43316035c2615ce1c031509", func := "inlay/inlaylaw13.CoderTables", spec := "coderTables", unfollowed := true, recurses := true, named := ["unicode/utf8.first", "unicode/utf8.acceptRanges"], apart := false, laid := [("unicode/utf8.acceptRanges", laid_unicode_utf8_acceptRanges), ("unicode/utf8.first", laid_unicode_utf8_first)], narrowed := true }
def CoderTablesUptoSaid : Prop := coderTablesUptoRow.holds Tryd.pinned (OpenSpec.upto coderTablesSpec)

end Rows
end Go.Proofs.YtcnpgmohnclojaaDoor
