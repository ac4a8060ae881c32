/-
  NARROWER THAN 'FOR EVERY INPUT', by the rows' own cells (each row's printed sentence says how): TrustMatchesReference: laid · TrustThreshold: laid · TrustRepeats: laid · TrustRotates: laid · TrustFloors: laid · TrustErrors: laid · TrustParts: laid.
  DERIVED. THE GIVEN ROWS OF THIS SEAT. 7 by the template 'for every input the law returns true; each argument reads behind the call as it read before'; 0 by the template 'total and deterministic' (their statements: YtokaegeediokoaaGreatDoorTotals.lean).
  GIVEN WITH THE SEED: the statements are not yours to turn. If you find one false, say at which input.
  Laid BY PROGRAM, IN A SANDBOX (cutbox-rows.mjs): the forced cells as the released guide's own fill.sh prints them over the translation 2b02d12f2c908ae2… (all of the seat's roots in one cut). By AI agents, Wed Nov 11 2026. No macro, syntax, notation, axiom, sorry.
-/
import Derived.Test.YtokaegeediokoaaGreatDoorChecked
import GoSem.Claim
import GoSem.ClaimJoined
import GoSem.ClaimMapViews
import Derived.JoinedTies
import Derived.KernelRfl
namespace Go.Proofs.YtokaegeediokoaaGreatDoor
/- THE CELL 'sum', in the pinned program and in every row, IS THE sha256 OF THE DUMP (.gsa) THAT YtokaegeediokoaaGreatDoorProg.lean LOADS. Nothing in Lean hashes anything: it is a label: what it is worth is what the hold of that sum in a sandbox is worth. -/
noncomputable def Tryz.pinned : Pinned := { name := "ytokaegeediokoaagreatdoor", sum := "2b02d12f2c908ae2f3862b9e24da292debf821bada9eb3d265c0a2c0d20f58ff", checked := Tryz.checked }
namespace Rows
def none {H : Type} : Left H := { results := [], args := [] }

/- WHAT THE LISTED PACKAGE-LEVEL VARIABLES READ AS WHEN THE CALL BEGINS. Each datum BY PROGRAM (the guide's laid-datum.mjs) off the statement by which the dump's own 'gosem.cut.vars' lays the variable. In a bare row this is a premise. The card (YtokaegeediokoaaGreatDoorCards.lean) ties it to the program's text. -/
def laid_inlay_hash_initial {H : Type} : DataW H := .agg [.lit (.int .u32 1779033703), .lit (.int .u32 3144134277), .lit (.int .u32 1013904242), .lit (.int .u32 2773480762), .lit (.int .u32 1359893119), .lit (.int .u32 2600822924), .lit (.int .u32 528734635), .lit (.int .u32 1541459225)]
def laid_inlay_hash_rounds {H : Type} : DataW H := .agg [.lit (.int .u32 1116352408), .lit (.int .u32 1899447441), .lit (.int .u32 3049323471), .lit (.int .u32 3921009573), .lit (.int .u32 961987163), .lit (.int .u32 1508970993), .lit (.int .u32 2453635748), .lit (.int .u32 2870763221), .lit (.int .u32 3624381080), .lit (.int .u32 310598401), .lit (.int .u32 607225278), .lit (.int .u32 1426881987), .lit (.int .u32 1925078388), .lit (.int .u32 2162078206), .lit (.int .u32 2614888103), .lit (.int .u32 3248222580), .lit (.int .u32 3835390401), .lit (.int .u32 4022224774), .lit (.int .u32 264347078), .lit (.int .u32 604807628), .lit (.int .u32 770255983), .lit (.int .u32 1249150122), .lit (.int .u32 1555081692), .lit (.int .u32 1996064986), .lit (.int .u32 2554220882), .lit (.int .u32 2821834349), .lit (.int .u32 2952996808), .lit (.int .u32 3210313671), .lit (.int .u32 3336571891), .lit (.int .u32 3584528711), .lit (.int .u32 113926993), .lit (.int .u32 338241895), .lit (.int .u32 666307205), .lit (.int .u32 773529912), .lit (.int .u32 1294757372), .lit (.int .u32 1396182291), .lit (.int .u32 1695183700), .lit (.int .u32 1986661051), .lit (.int .u32 2177026350), .lit (.int .u32 2456956037), .lit (.int .u32 2730485921), .lit (.int .u32 2820302411), .lit (.int .u32 3259730800), .lit (.int .u32 3345764771), .lit (.int .u32 3516065817), .lit (.int .u32 3600352804), .lit (.int .u32 4094571909), .lit (.int .u32 275423344), .lit (.int .u32 430227734), .lit (.int .u32 506948616), .lit (.int .u32 659060556), .lit (.int .u32 883997877), .lit (.int .u32 958139571), .lit (.int .u32 1322822218), .lit (.int .u32 1537002063), .lit (.int .u32 1747873779), .lit (.int .u32 1955562222), .lit (.int .u32 2024104815), .lit (.int .u32 2227730452), .lit (.int .u32 2361852424), .lit (.int .u32 2428436474), .lit (.int .u32 2756734187), .lit (.int .u32 3204031479), .lit (.int .u32 3329325298)]
def laid_bytes_ErrTooLarge {H : Type} : DataW H := .iface "*errors.errorString" (.ptr (.agg [.lit (.string [98, 121, 116, 101, 115, 46, 66, 117, 102, 102, 101, 114, 58, 32, 116, 111, 111, 32, 108, 97, 114, 103, 101])]))

/-- 'inlaylaw27.TrustMatchesReference': WHATEVER THE INPUT: true; the input reads as it did. -/
def trustMatchesReferenceSpec : ChangeSpec := { name := "trustMatchesReference", fn := fun _ => fun
  | [d1, d2, d3] => { results := [.lit (.bool true)], args := [d1, d2, d3] }
  | _ => none }
def trustMatchesReferenceRow : OpenClaim := { program := "ytokaegeediokoaagreatdoor", sum := "2b02d12f2c908ae2f3862b9e24da292debf821bada9eb3d265c0a2c0d20f58ff", func := "inlay/inlaylaw27.TrustMatchesReference", spec := "trustMatchesReference", inPlace := ["internal/bytealg.abigen_runtime_cmpstring"], unfollowed := true, recurses := true, named := ["inlay/hash.initial", "inlay/hash.rounds", "bytes.ErrTooLarge"], apart := false, laid := [("inlay/hash.initial", laid_inlay_hash_initial), ("inlay/hash.rounds", laid_inlay_hash_rounds), ("bytes.ErrTooLarge", laid_bytes_ErrTooLarge)] }
def TrustMatchesReferenceSaid : Prop := trustMatchesReferenceRow.holds Tryz.pinned (OpenSpec.ofChange trustMatchesReferenceSpec)

/-- ITS FALSE NEIGHBOUR: 'it returns false'. Refute it at one input. -/
def trustMatchesReferenceWrong : ChangeSpec := { name := "trustMatchesReference", fn := fun _ => fun
  | [d1, d2, d3] => { results := [.lit (.bool false)], args := [d1, d2, d3] }
  | _ => none }
def TrustMatchesReferenceWrongFalsely : Prop := trustMatchesReferenceRow.holds Tryz.pinned (OpenSpec.ofChange trustMatchesReferenceWrong)

/-- 'inlaylaw27.TrustThreshold': WHATEVER THE INPUT: true; the input reads as it did. -/
def trustThresholdSpec : ChangeSpec := { name := "trustThreshold", fn := fun _ => fun
  | [d1, d2, d3] => { results := [.lit (.bool true)], args := [d1, d2, d3] }
  | _ => none }
def trustThresholdRow : OpenClaim := { program := "ytokaegeediokoaagreatdoor", sum := "2b02d12f2c908ae2f3862b9e24da292debf821bada9eb3d265c0a2c0d20f58ff", func := "inlay/inlaylaw27.TrustThreshold", spec := "trustThreshold", inPlace := ["internal/bytealg.abigen_runtime_cmpstring"], unfollowed := true, recurses := true, named := ["inlay/hash.initial", "inlay/hash.rounds", "bytes.ErrTooLarge"], apart := false, laid := [("inlay/hash.initial", laid_inlay_hash_initial), ("inlay/hash.rounds", laid_inlay_hash_rounds), ("bytes.ErrTooLarge", laid_bytes_ErrTooLarge)] }
def TrustThresholdSaid : Prop := trustThresholdRow.holds Tryz.pinned (OpenSpec.ofChange trustThresholdSpec)

/-- ITS FALSE NEIGHBOUR: 'it returns false'. Refute it at one input. -/
def trustThresholdWrong : ChangeSpec := { name := "trustThreshold", fn := fun _ => fun
  | [d1, d2, d3] => { results := [.lit (.bool false)], args := [d1, d2, d3] }
  | _ => none }
def TrustThresholdWrongFalsely : Prop := trustThresholdRow.holds Tryz.pinned (OpenSpec.ofChange trustThresholdWrong)

/-- 'inlaylaw27.TrustRepeats': WHATEVER THE INPUT: true; the input reads as it did. -/
def trustRepeatsSpec : ChangeSpec := { name := "trustRepeats", fn := fun _ => fun
  | [d1, d2, d3] => { results := [.lit (.bool true)], args := [d1, d2, d3] }
  | _ => none }
def trustRepeatsRow : OpenClaim := { program := "ytokaegeediokoaagreatdoor", sum := "2b02d12f2c908ae2f3862b9e24da292debf821bada9eb3d265c0a2c0d20f58ff", func := "inlay/inlaylaw27.TrustRepeats", spec := "trustRepeats", inPlace := ["internal/bytealg.abigen_runtime_cmpstring"], unfollowed := true, recurses := true, named := ["inlay/hash.initial", "inlay/hash.rounds", "bytes.ErrTooLarge"], apart := false, laid := [("inlay/hash.initial", laid_inlay_hash_initial), ("inlay/hash.rounds", laid_inlay_hash_rounds), ("bytes.ErrTooLarge", laid_bytes_ErrTooLarge)] }
def TrustRepeatsSaid : Prop := trustRepeatsRow.holds Tryz.pinned (OpenSpec.ofChange trustRepeatsSpec)

/-- ITS FALSE NEIGHBOUR: 'it returns false'. Refute it at one input. -/
def trustRepeatsWrong : ChangeSpec := { name := "trustRepeats", fn := fun _ => fun
  | [d1, d2, d3] => { results := [.lit (.bool false)], args := [d1, d2, d3] }
  | _ => none }
def TrustRepeatsWrongFalsely : Prop := trustRepeatsRow.holds Tryz.pinned (OpenSpec.ofChange trustRepeatsWrong)

/-- 'inlaylaw27.TrustRotates': WHATEVER THE INPUT: true; the input reads as it did. -/
def trustRotatesSpec : ChangeSpec := { name := "trustRotates", fn := fun _ => fun
  | [d1, d2, d3] => { results := [.lit (.bool true)], args := [d1, d2, d3] }
  | _ => none }
def trustRotatesRow : OpenClaim := { program := "ytokaegeediokoaagreatdoor", sum := "2b02d12f2c908ae2f3862b9e24da292debf821bada9eb3d265c0a2c0d20f58ff", func := "inlay/inlaylaw27.TrustRotates", spec := "trustRotates", inPlace := ["internal/bytealg.abigen_runtime_cmpstring"], unfollowed := true, recurses := true, named := ["inlay/hash.initial", "inlay/hash.rounds", "bytes.ErrTooLarge"], apart := false, laid := [("inlay/hash.initial", laid_inlay_hash_initial), ("inlay/hash.rounds", laid_inlay_hash_rounds), ("bytes.ErrTooLarge", laid_bytes_ErrTooLarge)] }
def TrustRotatesSaid : Prop := trustRotatesRow.holds Tryz.pinned (OpenSpec.ofChange trustRotatesSpec)

/-- ITS FALSE NEIGHBOUR: 'it returns false'. Refute it at one input. -/
def trustRotatesWrong : ChangeSpec := { name := "trustRotates", fn := fun _ => fun
  | [d1, d2, d3] => { results := [.lit (.bool false)], args := [d1, d2, d3] }
  | _ => none }
def TrustRotatesWrongFalsely : Prop := trustRotatesRow.holds Tryz.pinned (OpenSpec.ofChange trustRotatesWrong)

/-- 'inlaylaw27.TrustFloors': WHATEVER THE INPUT: true; the input reads as it did. -/
def trustFloorsSpec : ChangeSpec := { name := "trustFloors", fn := fun _ => fun
  | [d] => { results := [.lit (.bool true)], args := [d] }
  | _ => none }
def trustFloorsRow : OpenClaim := { program := "ytokaegeediokoaagreatdoor", sum := "2b02d12f2c908ae2f3862b9e24da292debf821bada9eb3d265c0a2c0d20f58ff", func := "inlay/inlaylaw27.TrustFloors", spec := "trustFloors", inPlace := ["internal/bytealg.abigen_runtime_cmpstring"], unfollowed := true, recurses := true, named := ["inlay/hash.initial", "inlay/hash.rounds", "bytes.ErrTooLarge"], apart := false, laid := [("inlay/hash.initial", laid_inlay_hash_initial), ("inlay/hash.rounds", laid_inlay_hash_rounds), ("bytes.ErrTooLarge", laid_bytes_ErrTooLarge)] }
def TrustFloorsSaid : Prop := trustFloorsRow.holds Tryz.pinned (OpenSpec.ofChange trustFloorsSpec)

/-- ITS FALSE NEIGHBOUR: 'it returns false'. Refute it at one input. -/
def trustFloorsWrong : ChangeSpec := { name := "trustFloors", fn := fun _ => fun
  | [d] => { results := [.lit (.bool false)], args := [d] }
  | _ => none }
def TrustFloorsWrongFalsely : Prop := trustFloorsRow.holds Tryz.pinned (OpenSpec.ofChange trustFloorsWrong)

/-- 'inlaylaw27.TrustErrors': WHATEVER THE INPUT: true; the input reads as it did. -/
def trustErrorsSpec : ChangeSpec := { name := "trustErrors", fn := fun _ => fun
  | [d1, d2, d3] => { results := [.lit (.bool true)], args := [d1, d2, d3] }
  | _ => none }
def trustErrorsRow : OpenClaim := { program := "ytokaegeediokoaagreatdoor", sum := "2b02d12f2c908ae2f3862b9e24da292debf821bada9eb3d265c0a2c0d20f58ff", func := "inlay/inlaylaw27.TrustErrors", spec := "trustErrors", inPlace := ["internal/bytealg.abigen_runtime_cmpstring"], unfollowed := true, recurses := true, named := ["inlay/hash.initial", "inlay/hash.rounds", "bytes.ErrTooLarge"], apart := false, laid := [("inlay/hash.initial", laid_inlay_hash_initial), ("inlay/hash.rounds", laid_inlay_hash_rounds), ("bytes.ErrTooLarge", laid_bytes_ErrTooLarge)] }
def TrustErrorsSaid : Prop := trustErrorsRow.holds Tryz.pinned (OpenSpec.ofChange trustErrorsSpec)

/-- ITS FALSE NEIGHBOUR: 'it returns false'. Refute it at one input. -/
def trustErrorsWrong : ChangeSpec := { name := "trustErrors", fn := fun _ => fun
  | [d1, d2, d3] => { results := [.lit (.bool false)], args := [d1, d2, d3] }
  | _ => none }
def TrustErrorsWrongFalsely : Prop := trustErrorsRow.holds Tryz.pinned (OpenSpec.ofChange trustErrorsWrong)

/-- 'inlaylaw27.TrustParts': WHATEVER THE INPUT: true; the input reads as it did. -/
def trustPartsSpec : ChangeSpec := { name := "trustParts", fn := fun _ => fun
  | [d1, d2, d3] => { results := [.lit (.bool true)], args := [d1, d2, d3] }
  | _ => none }
def trustPartsRow : OpenClaim := { program := "ytokaegeediokoaagreatdoor", sum := "2b02d12f2c908ae2f3862b9e24da292debf821bada9eb3d265c0a2c0d20f58ff", func := "inlay/inlaylaw27.TrustParts", spec := "trustParts", inPlace := ["internal/bytealg.abigen_runtime_cmpstring"], unfollowed := true, recurses := true, named := ["inlay/hash.initial", "inlay/hash.rounds", "bytes.ErrTooLarge"], apart := false, laid := [("inlay/hash.initial", laid_inlay_hash_initial), ("inlay/hash.rounds", laid_inlay_hash_rounds), ("bytes.ErrTooLarge", laid_bytes_ErrTooLarge)] }
def TrustPartsSaid : Prop := trustPartsRow.holds Tryz.pinned (OpenSpec.ofChange trustPartsSpec)

/-- ITS FALSE NEIGHBOUR: 'it returns false'. Refute it at one input. -/
def trustPartsWrong : ChangeSpec := { name := "trustParts", fn := fun _ => fun
  | [d1, d2, d3] => { results := [.lit (.bool false)], args := [d1, d2, d3] }
  | _ => none }
def TrustPartsWrongFalsely : Prop := trustPartsRow.holds Tryz.pinned (OpenSpec.ofChange trustPartsWrong)

/- THE SECOND FORM. 'bulk': how many values and letters a reading holds, each counted each time it is reached (what is shared counts as often as it is met; a slice's spare places count too). A statement '..UptoSaid' is the law's where the arguments, and the package variables that the reading takes, are together of bulk at most 1048576: NARROWER than '..Said'. Prove '..Said' where nothing that the law and all that it calls make is longer than what came in: it says more and counts as full. Else prove '..UptoSaid'. A law counts once. -/
mutual
def uptoBulk {H : Type} : DataW H → Nat
  | .lit (.string bytes) => bytes.length + 1
  | .lit _ => 1
  | .nil => 1
  | .ptr d => uptoBulk d + 1
  | .slice elems spare => uptoBulkAll elems + uptoBulkAll spare + 1
  | .agg parts => uptoBulkAll parts + 1
  | .iface _ d => uptoBulk d + 1
  | .map entries => uptoBulkEntries entries + 1
  | .held _ => 1
def uptoBulkAll {H : Type} : List (DataW H) → Nat
  | [] => 0
  | d :: r => uptoBulk d + uptoBulkAll r
def uptoBulkEntries {H : Type} : List (Lit × DataW H) → Nat
  | [] => 0
  | x :: r => uptoBulkEntry x + uptoBulkEntries r
def uptoBulkEntry {H : Type} : Lit × DataW H → Nat
  | (.string bytes, d) => bytes.length + uptoBulk d + 1
  | (_, d) => uptoBulk d + 1
 end
def uptoSmall : (H : Type) → List (DataW H) → Bool := fun _ ds => decide (uptoBulkAll ds ≤ 1048576)
def OpenSpec.upto (s : _root_.Go.ChangeSpec) : _root_.Go.OpenSpec := { _root_.Go.OpenSpec.ofChange s with cond := some uptoSmall }

/-- 'inlaylaw27.TrustMatchesReference', WHERE WHAT IT READS IS OF BULK AT MOST 1048576: true; the input reads as it did. -/
def trustMatchesReferenceUptoRow : OpenClaim := { program := "ytokaegeediokoaagreatdoor", sum := "2b02d12f2c908ae2f3862b9e24da292debf821bada9eb3d265c0a2c0d20f58ff", func := "inlay/inlaylaw27.TrustMatchesReference", spec := "trustMatchesReference", inPlace := ["internal/bytealg.abigen_runtime_cmpstring"], unfollowed := true, recurses := true, named := ["inlay/hash.initial", "inlay/hash.rounds", "bytes.ErrTooLarge"], apart := false, laid := [("inlay/hash.initial", laid_inlay_hash_initial), ("inlay/hash.rounds", laid_inlay_hash_rounds), ("bytes.ErrTooLarge", laid_bytes_ErrTooLarge)], narrowed := true }
def TrustMatchesReferenceUptoSaid : Prop := trustMatchesReferenceUptoRow.holds Tryz.pinned (OpenSpec.upto trustMatchesReferenceSpec)

/-- 'inlaylaw27.TrustThreshold', WHERE WHAT IT READS IS OF BULK AT MOST 1048576: true; the input reads as it did. -/
def trustThresholdUptoRow : OpenClaim := { program := "ytokaegeediokoaagreatdoor", sum := "2b02d12f2c908ae2f3862b9e24da292debf821bada9eb3d265c0a2c0d20f58ff", func := "inlay/inlaylaw27.TrustThreshold", spec := "trustThreshold", inPlace := ["internal/bytealg.abigen_runtime_cmpstring"], unfollowed := true, recurses := true, named := ["inlay/hash.initial", "inlay/hash.rounds", "bytes.ErrTooLarge"], apart := false, laid := [("inlay/hash.initial", laid_inlay_hash_initial), ("inlay/hash.rounds", laid_inlay_hash_rounds), ("bytes.ErrTooLarge", laid_bytes_ErrTooLarge)], narrowed := true }
def TrustThresholdUptoSaid : Prop := trustThresholdUptoRow.holds Tryz.pinned (OpenSpec.upto trustThresholdSpec)

/-- 'inlaylaw27.TrustRepeats', WHERE WHAT IT READS IS OF BULK AT MOST 1048576: true; the input reads as it did. -/
def trustRepeatsUptoRow : OpenClaim := { program := "ytokaegeediokoaagreatdoor", sum := "2b02d12f2c908ae2f3862b9e24da292debf821bada9eb3d265c0a2c0d20f58ff", func := "inlay/inlaylaw27.TrustRepeats", spec := "trustRepeats", inPlace := ["internal/bytealg.abigen_runtime_cmpstring"], unfollowed := true, recurses := true, named := ["inlay/hash.initial", "inlay/hash.rounds", "bytes.ErrTooLarge"], apart := false, laid := [("inlay/hash.initial", laid_inlay_hash_initial), ("inlay/hash.rounds", laid_inlay_hash_rounds), ("bytes.ErrTooLarge", laid_bytes_ErrTooLarge)], narrowed := true }
def TrustRepeatsUptoSaid : Prop := trustRepeatsUptoRow.holds Tryz.pinned (OpenSpec.upto trustRepeatsSpec)

/-- 'inlaylaw27.TrustRotates', WHERE WHAT IT READS IS OF BULK AT MOST 1048576: true; the input reads as it did. -/
def trustRotatesUptoRow : OpenClaim := { program := "ytokaegeediokoaagreatdoor", sum := "2b02d12f2c908ae2f3862b9e24da292debf821bada9eb3d265c0a2c0d20f58ff", func := "inlay/inlaylaw27.TrustRotates", spec := "trustRotates", inPlace := ["internal/bytealg.abigen_runtime_cmpstring"], unfollowed := true, recurses := true, named := ["inlay/hash.initial", "inlay/hash.rounds", "bytes.ErrTooLarge"], apart := false, laid := [("inlay/hash.initial", laid_inlay_hash_initial), ("inlay/hash.rounds", laid_inlay_hash_rounds), ("bytes.ErrTooLarge", laid_bytes_ErrTooLarge)], narrowed := true }
def TrustRotatesUptoSaid : Prop := trustRotatesUptoRow.holds Tryz.pinned (OpenSpec.upto trustRotatesSpec)

/-- 'inlaylaw27.TrustFloors', WHERE WHAT IT READS IS OF BULK AT MOST 1048576: true; the input reads as it did. -/
def trustFloorsUptoRow : OpenClaim := { program := "ytokaegeediokoaagreatdoor", sum := "2b02d12f2c908ae2f3862b9e24da292debf821bada9eb3d265c0a2c0d20f58ff", func := "inlay/inlaylaw27.TrustFloors", spec := "trustFloors", inPlace := ["internal/bytealg.abigen_runtime_cmpstring"], unfollowed := true, recurses := true, named := ["inlay/hash.initial", "inlay/hash.rounds", "bytes.ErrTooLarge"], apart := false, laid := [("inlay/hash.initial", laid_inlay_hash_initial), ("inlay/hash.rounds", laid_inlay_hash_rounds), ("bytes.ErrTooLarge", laid_bytes_ErrTooLarge)], narrowed := true }
def TrustFloorsUptoSaid : Prop := trustFloorsUptoRow.holds Tryz.pinned (OpenSpec.upto trustFloorsSpec)

/-- 'inlaylaw27.TrustErrors', WHERE WHAT IT READS IS OF BULK AT MOST 1048576: true; the input reads as it did. -/
def trustErrorsUptoRow : OpenClaim := { program := "ytokaegeediokoaagreatdoor", sum := "2b02d12f2c908ae2f3862b9e24da292debf821bada9eb3d265c0a2c0d20f58ff", func := "inlay/inlaylaw27.TrustErrors", spec := "trustErrors", inPlace := ["internal/bytealg.abigen_runtime_cmpstring"], unfollowed := true, recurses := true, named := ["inlay/hash.initial", "inlay/hash.rounds", "bytes.ErrTooLarge"], apart := false, laid := [("inlay/hash.initial", laid_inlay_hash_initial), ("inlay/hash.rounds", laid_inlay_hash_rounds), ("bytes.ErrTooLarge", laid_bytes_ErrTooLarge)], narrowed := true }
def TrustErrorsUptoSaid : Prop := trustErrorsUptoRow.holds Tryz.pinned (OpenSpec.upto trustErrorsSpec)

/-- 'inlaylaw27.TrustParts', WHERE WHAT IT READS IS OF BULK AT MOST 1048576: true; the input reads as it did. -/
def trustPartsUptoRow : OpenClaim := { program := "ytokaegeediokoaagreatdoor", sum := "2b02d12f2c908ae2f3862b9e24da292debf821bada9eb3d265c0a2c0d20f58ff", func := "inlay/inlaylaw27.TrustParts", spec := "trustParts", inPlace := ["internal/bytealg.abigen_runtime_cmpstring"], unfollowed := true, recurses := true, named := ["inlay/hash.initial", "inlay/hash.rounds", "bytes.ErrTooLarge"], apart := false, laid := [("inlay/hash.initial", laid_inlay_hash_initial), ("inlay/hash.rounds", laid_inlay_hash_rounds), ("bytes.ErrTooLarge", laid_bytes_ErrTooLarge)], narrowed := true }
def TrustPartsUptoSaid : Prop := trustPartsUptoRow.holds Tryz.pinned (OpenSpec.upto trustPartsSpec)

end Rows
end Go.Proofs.YtokaegeediokoaaGreatDoor
