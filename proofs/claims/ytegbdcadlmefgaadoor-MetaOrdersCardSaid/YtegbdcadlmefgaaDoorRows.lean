/-
  NARROWER THAN 'FOR EVERY INPUT', by the rows' own cells (each row's printed sentence says how): MetaMatchesReference: laid · MetaRoundTrips: laid · MetaParses: laid · MetaRootParses: laid · MetaDiffers: laid · MetaLengths: laid · MetaLimits: laid · MetaOrders: laid.
  DERIVED. THE GIVEN ROWS OF THIS SEAT. 8 by the template 'for every input the law returns true; each argument reads behind the call as it read before'; 0 by the template 'total and deterministic' (their statements: YtegbdcadlmefgaaDoorTotals.lean).
  GIVEN WITH THE SEED: the statements are not yours to turn. If you find one false, say at which input.
  Laid BY PROGRAM, IN A SANDBOX (cutbox-rows.mjs): the forced cells as the released guide's own fill.sh prints them over the translation fd2b1981c04d453c… (all of the seat's roots in one cut). By AI agents, Wed Nov 11 2026. No macro, syntax, notation, axiom, sorry.
-/
import Derived.Test.YtegbdcadlmefgaaDoorChecked
import GoSem.Claim
import GoSem.ClaimJoined
import GoSem.ClaimMapViews
import Derived.JoinedTies
import Derived.KernelRfl
namespace Go.Proofs.YtegbdcadlmefgaaDoor
/- THE CELL 'sum', in the pinned program and in every row, IS THE sha256 OF THE DUMP (.gsa) THAT YtegbdcadlmefgaaDoorProg.lean LOADS. Nothing in Lean hashes anything: it is a label: what it is worth is what the hold of that sum in a sandbox is worth. -/
noncomputable def Tryd.pinned : Pinned := { name := "ytegbdcadlmefgaadoor", sum := "fd2b1981c04d453ce6234c9038eba0dffe6861909f144cd79b1bf810e5d07e0c", checked := Tryd.checked }
namespace Rows
def none {H : Type} : Left H := { results := [], args := [] }

/- WHAT THE LISTED PACKAGE-LEVEL VARIABLES READ AS WHEN THE CALL BEGINS. Each datum BY PROGRAM (the guide's laid-datum.mjs) off the statement by which the dump's own 'gosem.cut.vars' lays the variable. In a bare row this is a premise. The card (YtegbdcadlmefgaaDoorCards.lean) ties it to the program's text. -/
def laid_bytes_ErrTooLarge {H : Type} : DataW H := .iface "*errors.errorString" (.ptr (.agg [.lit (.string [98, 121, 116, 101, 115, 46, 66, 117, 102, 102, 101, 114, 58, 32, 116, 111, 111, 32, 108, 97, 114, 103, 101])]))

/-- 'inlaylaw26.MetaMatchesReference': WHATEVER THE INPUT: true; the input reads as it did. -/
def metaMatchesReferenceSpec : ChangeSpec := { name := "metaMatchesReference", fn := fun _ => fun
  | [d1, d2] => { results := [.lit (.bool true)], args := [d1, d2] }
  | _ => none }
def metaMatchesReferenceRow : OpenClaim := { program := "ytegbdcadlmefgaadoor", sum := "fd2b1981c04d453ce6234c9038eba0dffe6861909f144cd79b1bf810e5d07e0c", func := "inlay/inlaylaw26.MetaMatchesReference", spec := "metaMatchesReference", inPlace := ["internal/bytealg.abigen_runtime_cmpstring"], unfollowed := true, recurses := true, named := ["bytes.ErrTooLarge"], apart := false, laid := [("bytes.ErrTooLarge", laid_bytes_ErrTooLarge)] }
def MetaMatchesReferenceSaid : Prop := metaMatchesReferenceRow.holds Tryd.pinned (OpenSpec.ofChange metaMatchesReferenceSpec)

/-- ITS FALSE NEIGHBOUR: 'it returns false'. Refute it at one input. -/
def metaMatchesReferenceWrong : ChangeSpec := { name := "metaMatchesReference", fn := fun _ => fun
  | [d1, d2] => { results := [.lit (.bool false)], args := [d1, d2] }
  | _ => none }
def MetaMatchesReferenceWrongFalsely : Prop := metaMatchesReferenceRow.holds Tryd.pinned (OpenSpec.ofChange metaMatchesReferenceWrong)

/-- 'inlaylaw26.MetaRoundTrips': WHATEVER THE INPUT: true; the input reads as it did. -/
def metaRoundTripsSpec : ChangeSpec := { name := "metaRoundTrips", fn := fun _ => fun
  | [d1, d2] => { results := [.lit (.bool true)], args := [d1, d2] }
  | _ => none }
def metaRoundTripsRow : OpenClaim := { program := "ytegbdcadlmefgaadoor", sum := "fd2b1981c04d453ce6234c9038eba0dffe6861909f144cd79b1bf810e5d07e0c", func := "inlay/inlaylaw26.MetaRoundTrips", spec := "metaRoundTrips", inPlace := ["internal/bytealg.abigen_runtime_cmpstring"], unfollowed := true, recurses := true, named := ["bytes.ErrTooLarge"], apart := false, laid := [("bytes.ErrTooLarge", laid_bytes_ErrTooLarge)] }
def MetaRoundTripsSaid : Prop := metaRoundTripsRow.holds Tryd.pinned (OpenSpec.ofChange metaRoundTripsSpec)

/-- ITS FALSE NEIGHBOUR: 'it returns false'. Refute it at one input. -/
def metaRoundTripsWrong : ChangeSpec := { name := "metaRoundTrips", fn := fun _ => fun
  | [d1, d2] => { results := [.lit (.bool false)], args := [d1, d2] }
  | _ => none }
def MetaRoundTripsWrongFalsely : Prop := metaRoundTripsRow.holds Tryd.pinned (OpenSpec.ofChange metaRoundTripsWrong)

/-- 'inlaylaw26.MetaParses': WHATEVER THE INPUT: true; the input reads as it did. -/
def metaParsesSpec : ChangeSpec := { name := "metaParses", fn := fun _ => fun
  | [d1, d2, d3] => { results := [.lit (.bool true)], args := [d1, d2, d3] }
  | _ => none }
def metaParsesRow : OpenClaim := { program := "ytegbdcadlmefgaadoor", sum := "fd2b1981c04d453ce6234c9038eba0dffe6861909f144cd79b1bf810e5d07e0c", func := "inlay/inlaylaw26.MetaParses", spec := "metaParses", inPlace := ["internal/bytealg.abigen_runtime_cmpstring"], unfollowed := true, recurses := true, named := ["bytes.ErrTooLarge"], apart := false, laid := [("bytes.ErrTooLarge", laid_bytes_ErrTooLarge)] }
def MetaParsesSaid : Prop := metaParsesRow.holds Tryd.pinned (OpenSpec.ofChange metaParsesSpec)

/-- ITS FALSE NEIGHBOUR: 'it returns false'. Refute it at one input. -/
def metaParsesWrong : ChangeSpec := { name := "metaParses", fn := fun _ => fun
  | [d1, d2, d3] => { results := [.lit (.bool false)], args := [d1, d2, d3] }
  | _ => none }
def MetaParsesWrongFalsely : Prop := metaParsesRow.holds Tryd.pinned (OpenSpec.ofChange metaParsesWrong)

/-- 'inlaylaw26.MetaRootParses': WHATEVER THE INPUT: true; the input reads as it did. -/
def metaRootParsesSpec : ChangeSpec := { name := "metaRootParses", fn := fun _ => fun
  | [d1, d2, d3] => { results := [.lit (.bool true)], args := [d1, d2, d3] }
  | _ => none }
def metaRootParsesRow : OpenClaim := { program := "ytegbdcadlmefgaadoor", sum := "fd2b1981c04d453ce6234c9038eba0dffe6861909f144cd79b1bf810e5d07e0c", func := "inlay/inlaylaw26.MetaRootParses", spec := "metaRootParses", inPlace := ["internal/bytealg.abigen_runtime_cmpstring"], unfollowed := true, recurses := true, named := ["bytes.ErrTooLarge"], apart := false, laid := [("bytes.ErrTooLarge", laid_bytes_ErrTooLarge)] }
def MetaRootParsesSaid : Prop := metaRootParsesRow.holds Tryd.pinned (OpenSpec.ofChange metaRootParsesSpec)

/-- ITS FALSE NEIGHBOUR: 'it returns false'. Refute it at one input. -/
def metaRootParsesWrong : ChangeSpec := { name := "metaRootParses", fn := fun _ => fun
  | [d1, d2, d3] => { results := [.lit (.bool false)], args := [d1, d2, d3] }
  | _ => none }
def MetaRootParsesWrongFalsely : Prop := metaRootParsesRow.holds Tryd.pinned (OpenSpec.ofChange metaRootParsesWrong)

/-- 'inlaylaw26.MetaDiffers': WHATEVER THE INPUT: true; the input reads as it did. -/
def metaDiffersSpec : ChangeSpec := { name := "metaDiffers", fn := fun _ => fun
  | [d1, d2] => { results := [.lit (.bool true)], args := [d1, d2] }
  | _ => none }
def metaDiffersRow : OpenClaim := { program := "ytegbdcadlmefgaadoor", sum := "fd2b1981c04d453ce6234c9038eba0dffe6861909f144cd79b1bf810e5d07e0c", func := "inlay/inlaylaw26.MetaDiffers", spec := "metaDiffers", inPlace := ["internal/bytealg.abigen_runtime_cmpstring"], unfollowed := true, recurses := true, named := ["bytes.ErrTooLarge"], apart := false, laid := [("bytes.ErrTooLarge", laid_bytes_ErrTooLarge)] }
def MetaDiffersSaid : Prop := metaDiffersRow.holds Tryd.pinned (OpenSpec.ofChange metaDiffersSpec)

/-- ITS FALSE NEIGHBOUR: 'it returns false'. Refute it at one input. -/
def metaDiffersWrong : ChangeSpec := { name := "metaDiffers", fn := fun _ => fun
  | [d1, d2] => { results := [.lit (.bool false)], args := [d1, d2] }
  | _ => none }
def MetaDiffersWrongFalsely : Prop := metaDiffersRow.holds Tryd.pinned (OpenSpec.ofChange metaDiffersWrong)

/-- 'inlaylaw26.MetaLengths': WHATEVER THE INPUT: true; the input reads as it did. -/
def metaLengthsSpec : ChangeSpec := { name := "metaLengths", fn := fun _ => fun
  | [d1, d2, d3] => { results := [.lit (.bool true)], args := [d1, d2, d3] }
  | _ => none }
def metaLengthsRow : OpenClaim := { program := "ytegbdcadlmefgaadoor", sum := "fd2b1981c04d453ce6234c9038eba0dffe6861909f144cd79b1bf810e5d07e0c", func := "inlay/inlaylaw26.MetaLengths", spec := "metaLengths", inPlace := ["internal/bytealg.abigen_runtime_cmpstring"], unfollowed := true, recurses := true, named := ["bytes.ErrTooLarge"], apart := false, laid := [("bytes.ErrTooLarge", laid_bytes_ErrTooLarge)] }
def MetaLengthsSaid : Prop := metaLengthsRow.holds Tryd.pinned (OpenSpec.ofChange metaLengthsSpec)

/-- ITS FALSE NEIGHBOUR: 'it returns false'. Refute it at one input. -/
def metaLengthsWrong : ChangeSpec := { name := "metaLengths", fn := fun _ => fun
  | [d1, d2, d3] => { results := [.lit (.bool false)], args := [d1, d2, d3] }
  | _ => none }
def MetaLengthsWrongFalsely : Prop := metaLengthsRow.holds Tryd.pinned (OpenSpec.ofChange metaLengthsWrong)

/-- 'inlaylaw26.MetaLimits': WHATEVER THE INPUT: true; the input reads as it did. -/
def metaLimitsSpec : ChangeSpec := { name := "metaLimits", fn := fun _ => fun
  | [d1, d2] => { results := [.lit (.bool true)], args := [d1, d2] }
  | _ => none }
def metaLimitsRow : OpenClaim := { program := "ytegbdcadlmefgaadoor", sum := "fd2b1981c04d453ce6234c9038eba0dffe6861909f144cd79b1bf810e5d07e0c", func := "inlay/inlaylaw26.MetaLimits", spec := "metaLimits", inPlace := ["internal/bytealg.abigen_runtime_cmpstring"], unfollowed := true, recurses := true, named := ["bytes.ErrTooLarge"], apart := false, laid := [("bytes.ErrTooLarge", laid_bytes_ErrTooLarge)] }
def MetaLimitsSaid : Prop := metaLimitsRow.holds Tryd.pinned (OpenSpec.ofChange metaLimitsSpec)

/-- ITS FALSE NEIGHBOUR: 'it returns false'. Refute it at one input. -/
def metaLimitsWrong : ChangeSpec := { name := "metaLimits", fn := fun _ => fun
  | [d1, d2] => { results := [.lit (.bool false)], args := [d1, d2] }
  | _ => none }
def MetaLimitsWrongFalsely : Prop := metaLimitsRow.holds Tryd.pinned (OpenSpec.ofChange metaLimitsWrong)

/-- 'inlaylaw26.MetaOrders': WHATEVER THE INPUT: true; the input reads as it did. -/
def metaOrdersSpec : ChangeSpec := { name := "metaOrders", fn := fun _ => fun
  | [d1, d2, d3] => { results := [.lit (.bool true)], args := [d1, d2, d3] }
  | _ => none }
def metaOrdersRow : OpenClaim := { program := "ytegbdcadlmefgaadoor", sum := "fd2b1981c04d453ce6234c9038eba0dffe6861909f144cd79b1bf810e5d07e0c", func := "inlay/inlaylaw26.MetaOrders", spec := "metaOrders", inPlace := ["internal/bytealg.abigen_runtime_cmpstring"], unfollowed := true, recurses := true, named := ["bytes.ErrTooLarge"], apart := false, laid := [("bytes.ErrTooLarge", laid_bytes_ErrTooLarge)] }
def MetaOrdersSaid : Prop := metaOrdersRow.holds Tryd.pinned (OpenSpec.ofChange metaOrdersSpec)

/-- ITS FALSE NEIGHBOUR: 'it returns false'. Refute it at one input. -/
def metaOrdersWrong : ChangeSpec := { name := "metaOrders", fn := fun _ => fun
  | [d1, d2, d3] => { results := [.lit (.bool false)], args := [d1, d2, d3] }
  | _ => none }
def MetaOrdersWrongFalsely : Prop := metaOrdersRow.holds Tryd.pinned (OpenSpec.ofChange metaOrdersWrong)

/- THE SECOND FORM. 'bulk': how many values and letters a reading holds, each counted each time it is reached (what is shared counts as often as it is met; a slice's spare places count too). A statement '..UptoSaid' is the law's where the arguments, and the package variables that the reading takes, are together of bulk at most 1048576: NARROWER than '..Said'. Prove '..Said' where nothing that the law and all that it calls make is longer than what came in: it says more and counts as full. Else prove '..UptoSaid'. A law counts once. -/
mutual
def uptoBulk {H : Type} : DataW H → Nat
  | .lit (.string bytes) => bytes.length + 1
  | .lit _ => 1
  | .nil => 1
  | .ptr d => uptoBulk d + 1
  | .slice elems spare => uptoBulkAll elems + uptoBulkAll spare + 1
  | .agg parts => uptoBulkAll parts + 1
  | .iface _ d => uptoBulk d + 1
  | .map entries => uptoBulkEntries entries + 1
  | .held _ => 1
def uptoBulkAll {H : Type} : List (DataW H) → Nat
  | [] => 0
  | d :: r => uptoBulk d + uptoBulkAll r
def uptoBulkEntries {H : Type} : List (Lit × DataW H) → Nat
  | [] => 0
  | x :: r => uptoBulkEntry x + uptoBulkEntries r
def uptoBulkEntry {H : Type} : Lit × DataW H → Nat
  | (.string bytes, d) => bytes.length + uptoBulk d + 1
  | (_, d) => uptoBulk d + 1
 end
def uptoSmall : (H : Type) → List (DataW H) → Bool := fun _ ds => decide (uptoBulkAll ds ≤ 1048576)
def OpenSpec.upto (s : _root_.Go.ChangeSpec) : _root_.Go.OpenSpec := { _root_.Go.OpenSpec.ofChange s with cond := some uptoSmall }

/-- 'inlaylaw26.MetaMatchesReference', WHERE WHAT IT READS IS OF BULK AT MOST 1048576: true; the input reads as it did. -/
def metaMatchesReferenceUptoRow : OpenClaim := { program := "ytegbdcadlmefgaadoor", sum := "fd2b1981c04d453ce6234c9038eba0dffe6861909f144cd79b1bf810e5d07e0c", func := "inlay/inlaylaw26.MetaMatchesReference", spec := "metaMatchesReference", inPlace := ["internal/bytealg.abigen_runtime_cmpstring"], unfollowed := true, recurses := true, named := ["bytes.ErrTooLarge"], apart := false, laid := [("bytes.ErrTooLarge", laid_bytes_ErrTooLarge)], narrowed := true }
def MetaMatchesReferenceUptoSaid : Prop := metaMatchesReferenceUptoRow.holds Tryd.pinned (OpenSpec.upto metaMatchesReferenceSpec)

/-- 'inlaylaw26.MetaRoundTrips', WHERE WHAT IT READS IS OF BULK AT MOST 1048576: true; the input reads as it did. -/
def metaRoundTripsUptoRow : OpenClaim := { program := "ytegbdcadlmefgaadoor", sum := "fd2b1981c04d453ce6234c9038eba0dffe6861909f144cd79b1bf810e5d07e0c", func := "inlay/inlaylaw26.MetaRoundTrips", spec := "metaRoundTrips", inPlace := ["internal/bytealg.abigen_runtime_cmpstring"], unfollowed := true, recurses := true, named := ["bytes.ErrTooLarge"], apart := false, laid := [("bytes.ErrTooLarge", laid_bytes_ErrTooLarge)], narrowed := true }
def MetaRoundTripsUptoSaid : Prop := metaRoundTripsUptoRow.holds Tryd.pinned (OpenSpec.upto metaRoundTripsSpec)

/-- 'inlaylaw26.MetaParses', WHERE WHAT IT READS IS OF BULK AT MOST 1048576: true; the input reads as it did. -/
def metaParsesUptoRow : OpenClaim := { program := "ytegbdcadlmefgaadoor", sum := "fd2b1981c04d453ce6234c9038eba0dffe6861909f144cd79b1bf810e5d07e0c", func := "inlay/inlaylaw26.MetaParses", spec := "metaParses", inPlace := ["internal/bytealg.abigen_runtime_cmpstring"], unfollowed := true, recurses := true, named := ["bytes.ErrTooLarge"], apart := false, laid := [("bytes.ErrTooLarge", laid_bytes_ErrTooLarge)], narrowed := true }
def MetaParsesUptoSaid : Prop := metaParsesUptoRow.holds Tryd.pinned (OpenSpec.upto metaParsesSpec)

/-- 'inlaylaw26.MetaRootParses', WHERE WHAT IT READS IS OF BULK AT MOST 1048576: true; the input reads as it did. -/
def metaRootParsesUptoRow : OpenClaim := { program := "ytegbdcadlmefgaadoor", sum := "fd2b1981c04d453ce6234c9038eba0dffe6861909f144cd79b1bf810e5d07e0c", func := "inlay/inlaylaw26.MetaRootParses", spec := "metaRootParses", inPlace := ["internal/bytealg.abigen_runtime_cmpstring"], unfollowed := true, recurses := true, named := ["bytes.ErrTooLarge"], apart := false, laid := [("bytes.ErrTooLarge", laid_bytes_ErrTooLarge)], narrowed := true }
def MetaRootParsesUptoSaid : Prop := metaRootParsesUptoRow.holds Tryd.pinned (OpenSpec.upto metaRootParsesSpec)

/-- 'inlaylaw26.MetaDiffers', WHERE WHAT IT READS IS OF BULK AT MOST 1048576: true; the input reads as it did. -/
def metaDiffersUptoRow : OpenClaim := { program := "ytegbdcadlmefgaadoor", sum := "fd2b1981c04d453ce6234c9038eba0dffe6861909f144cd79b1bf810e5d07e0c", func := "inlay/inlaylaw26.MetaDiffers", spec := "metaDiffers", inPlace := ["internal/bytealg.abigen_runtime_cmpstring"], unfollowed := true, recurses := true, named := ["bytes.ErrTooLarge"], apart := false, laid := [("bytes.ErrTooLarge", laid_bytes_ErrTooLarge)], narrowed := true }
def MetaDiffersUptoSaid : Prop := metaDiffersUptoRow.holds Tryd.pinned (OpenSpec.upto metaDiffersSpec)

/-- 'inlaylaw26.MetaLengths', WHERE WHAT IT READS IS OF BULK AT MOST 1048576: true; the input reads as it did. -/
def metaLengthsUptoRow : OpenClaim := { program := "ytegbdcadlmefgaadoor", sum := "fd2b1981c04d453ce6234c9038eba0dffe6861909f144cd79b1bf810e5d07e0c", func := "inlay/inlaylaw26.MetaLengths", spec := "metaLengths", inPlace := ["internal/bytealg.abigen_runtime_cmpstring"], unfollowed := true, recurses := true, named := ["bytes.ErrTooLarge"], apart := false, laid := [("bytes.ErrTooLarge", laid_bytes_ErrTooLarge)], narrowed := true }
def MetaLengthsUptoSaid : Prop := metaLengthsUptoRow.holds Tryd.pinned (OpenSpec.upto metaLengthsSpec)

/-- 'inlaylaw26.MetaLimits', WHERE WHAT IT READS IS OF BULK AT MOST 1048576: true; the input reads as it did. -/
def metaLimitsUptoRow : OpenClaim := { program := "ytegbdcadlmefgaadoor", sum := "fd2b1981c04d453ce6234c9038eba0dffe6861909f144cd79b1bf810e5d07e0c", func := "inlay/inlaylaw26.MetaLimits", spec := "metaLimits", inPlace := ["internal/bytealg.abigen_runtime_cmpstring"], unfollowed := true, recurses := true, named := ["bytes.ErrTooLarge"], apart := false, laid := [("bytes.ErrTooLarge", laid_bytes_ErrTooLarge)], narrowed := true }
def MetaLimitsUptoSaid : Prop := metaLimitsUptoRow.holds Tryd.pinned (OpenSpec.upto metaLimitsSpec)

/-- 'inlaylaw26.MetaOrders', WHERE WHAT IT READS IS OF BULK AT MOST 1048576: true; the input reads as it did. -/
def metaOrdersUptoRow : OpenClaim := { program := "ytegbdcadlmefgaadoor", sum := "fd2b1981c04d453ce6234c9038eba0dffe6861909f144cd79b1bf810e5d07e0c", func := "inlay/inlaylaw26.MetaOrders", spec := "metaOrders", inPlace := ["internal/bytealg.abigen_runtime_cmpstring"], unfollowed := true, recurses := true, named := ["bytes.ErrTooLarge"], apart := false, laid := [("bytes.ErrTooLarge", laid_bytes_ErrTooLarge)], narrowed := true }
def MetaOrdersUptoSaid : Prop := metaOrdersUptoRow.holds Tryd.pinned (OpenSpec.upto metaOrdersSpec)

end Rows
end Go.Proofs.YtegbdcadlmefgaaDoor
