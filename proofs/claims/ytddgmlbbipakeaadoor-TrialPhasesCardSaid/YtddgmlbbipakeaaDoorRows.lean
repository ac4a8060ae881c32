/-
  NARROWER THAN 'FOR EVERY INPUT', by the rows' own cells (each row's printed sentence says how): TrialMatchesReference: laid · TrialValid: laid · TrialKeeps: laid · TrialEnds: laid · TrialStays: laid · TrialLast: laid · TrialPhases: laid.
  DERIVED. THE GIVEN ROWS OF THIS SEAT. 7 by the template 'for every input the law returns true; each argument reads behind the call as it read before'; 0 by the template 'total and deterministic' (their statements: YtddgmlbbipakeaaDoorTotals.lean).
  GIVEN WITH THE SEED: the statements are not yours to turn. If you find one false, say at which input.
  Laid BY PROGRAM, IN A SANDBOX (cutbox-rows.mjs): the forced cells as the released guide's own fill.sh prints them over the translation b557d5a99efe6309… (all of the seat's roots in one cut). By AI agents, Wed Nov 11 2026. No macro, syntax, notation, axiom, sorry.
-/
import Derived.Test.YtddgmlbbipakeaaDoorChecked
import GoSem.Claim
import GoSem.ClaimJoined
import GoSem.ClaimMapViews
import Derived.JoinedTies
import Derived.KernelRfl
namespace Go.Proofs.YtddgmlbbipakeaaDoor
/- THE CELL 'sum', in the pinned program and in every row, IS THE sha256 OF THE DUMP (.gsa) THAT YtddgmlbbipakeaaDoorProg.lean LOADS. Nothing in Lean hashes anything: it is a label: what it is worth is what the hold of that sum in a sandbox is worth. -/
noncomputable def Tryd.pinned : Pinned := { name := "ytddgmlbbipakeaadoor", sum := "b557d5a99efe6309cedb3cf85c4b818a0e65199ccb80721295edc997d47fb4e1", checked := Tryd.checked }
namespace Rows
def none {H : Type} : Left H := { results := [], args := [] }

/- WHAT THE LISTED PACKAGE-LEVEL VARIABLES READ AS WHEN THE CALL BEGINS. Each datum BY PROGRAM (the guide's laid-datum.mjs) off the statement by which the dump's own 'gosem.cut.vars' lays the variable. In a bare row this is a premise. The card (YtddgmlbbipakeaaDoorCards.lean) ties it to the program's text. -/
def laid_inlay_trial_boots {H : Type} : DataW H := .iface "func table" (.agg [.iface "func" (.lit (.string [105, 110, 108, 97, 121, 47, 116, 114, 105, 97, 108, 46, 98, 111, 111, 116, 115, 36, 49])), .nil, .nil, .nil, .nil, .iface "func" (.lit (.string [105, 110, 108, 97, 121, 47, 116, 114, 105, 97, 108, 46, 98, 111, 111, 116, 115, 36, 50])), .nil])

/-- 'inlaylaw24.TrialMatchesReference': WHATEVER THE INPUT: true; the input reads as it did. -/
def trialMatchesReferenceSpec : ChangeSpec := { name := "trialMatchesReference", fn := fun _ => fun
  | [d1, d2] => { results := [.lit (.bool true)], args := [d1, d2] }
  | _ => none }
def trialMatchesReferenceRow : OpenClaim := { program := "ytddgmlbbipakeaadoor", sum := "b557d5a99efe6309cedb3cf85c4b818a0e65199ccb80721295edc997d47fb4e1", func := "inlay/inlaylaw24.TrialMatchesReference", spec := "trialMatchesReference", unfollowed := true, recurses := true, named := ["inlay/trial.boots"], apart := false, laid := [("inlay/trial.boots", laid_inlay_trial_boots)] }
def TrialMatchesReferenceSaid : Prop := trialMatchesReferenceRow.holds Tryd.pinned (OpenSpec.ofChange trialMatchesReferenceSpec)

/-- ITS FALSE NEIGHBOUR: 'it returns false'. Refute it at one input. -/
def trialMatchesReferenceWrong : ChangeSpec := { name := "trialMatchesReference", fn := fun _ => fun
  | [d1, d2] => { results := [.lit (.bool false)], args := [d1, d2] }
  | _ => none }
def TrialMatchesReferenceWrongFalsely : Prop := trialMatchesReferenceRow.holds Tryd.pinned (OpenSpec.ofChange trialMatchesReferenceWrong)

/-- 'inlaylaw24.TrialValid': WHATEVER THE INPUT: true; the input reads as it did. -/
def trialValidSpec : ChangeSpec := { name := "trialValid", fn := fun _ => fun
  | [d1, d2, d3] => { results := [.lit (.bool true)], args := [d1, d2, d3] }
  | _ => none }
def trialValidRow : OpenClaim := { program := "ytddgmlbbipakeaadoor", sum := "b557d5a99efe6309cedb3cf85c4b818a0e65199ccb80721295edc997d47fb4e1", func := "inlay/inlaylaw24.TrialValid", spec := "trialValid", unfollowed := true, recurses := true, named := ["inlay/trial.boots"], apart := false, laid := [("inlay/trial.boots", laid_inlay_trial_boots)] }
def TrialValidSaid : Prop := trialValidRow.holds Tryd.pinned (OpenSpec.ofChange trialValidSpec)

/-- ITS FALSE NEIGHBOUR: 'it returns false'. Refute it at one input. -/
def trialValidWrong : ChangeSpec := { name := "trialValid", fn := fun _ => fun
  | [d1, d2, d3] => { results := [.lit (.bool false)], args := [d1, d2, d3] }
  | _ => none }
def TrialValidWrongFalsely : Prop := trialValidRow.holds Tryd.pinned (OpenSpec.ofChange trialValidWrong)

/-- 'inlaylaw24.TrialKeeps': WHATEVER THE INPUT: true; the input reads as it did. -/
def trialKeepsSpec : ChangeSpec := { name := "trialKeeps", fn := fun _ => fun
  | [d1, d2] => { results := [.lit (.bool true)], args := [d1, d2] }
  | _ => none }
def trialKeepsRow : OpenClaim := { program := "ytddgmlbbipakeaadoor", sum := "b557d5a99efe6309cedb3cf85c4b818a0e65199ccb80721295edc997d47fb4e1", func := "inlay/inlaylaw24.TrialKeeps", spec := "trialKeeps", unfollowed := true, recurses := true, named := ["inlay/trial.boots"], apart := false, laid := [("inlay/trial.boots", laid_inlay_trial_boots)] }
def TrialKeepsSaid : Prop := trialKeepsRow.holds Tryd.pinned (OpenSpec.ofChange trialKeepsSpec)

/-- ITS FALSE NEIGHBOUR: 'it returns false'. Refute it at one input. -/
def trialKeepsWrong : ChangeSpec := { name := "trialKeeps", fn := fun _ => fun
  | [d1, d2] => { results := [.lit (.bool false)], args := [d1, d2] }
  | _ => none }
def TrialKeepsWrongFalsely : Prop := trialKeepsRow.holds Tryd.pinned (OpenSpec.ofChange trialKeepsWrong)

/-- 'inlaylaw24.TrialEnds': WHATEVER THE INPUT: true; the input reads as it did. -/
def trialEndsSpec : ChangeSpec := { name := "trialEnds", fn := fun _ => fun
  | [d1, d2] => { results := [.lit (.bool true)], args := [d1, d2] }
  | _ => none }
def trialEndsRow : OpenClaim := { program := "ytddgmlbbipakeaadoor", sum := "b557d5a99efe6309cedb3cf85c4b818a0e65199ccb80721295edc997d47fb4e1", func := "inlay/inlaylaw24.TrialEnds", spec := "trialEnds", unfollowed := true, recurses := true, named := ["inlay/trial.boots"], apart := false, laid := [("inlay/trial.boots", laid_inlay_trial_boots)] }
def TrialEndsSaid : Prop := trialEndsRow.holds Tryd.pinned (OpenSpec.ofChange trialEndsSpec)

/-- ITS FALSE NEIGHBOUR: 'it returns false'. Refute it at one input. -/
def trialEndsWrong : ChangeSpec := { name := "trialEnds", fn := fun _ => fun
  | [d1, d2] => { results := [.lit (.bool false)], args := [d1, d2] }
  | _ => none }
def TrialEndsWrongFalsely : Prop := trialEndsRow.holds Tryd.pinned (OpenSpec.ofChange trialEndsWrong)

/-- 'inlaylaw24.TrialStays': WHATEVER THE INPUT: true; the input reads as it did. -/
def trialStaysSpec : ChangeSpec := { name := "trialStays", fn := fun _ => fun
  | [d1, d2] => { results := [.lit (.bool true)], args := [d1, d2] }
  | _ => none }
def trialStaysRow : OpenClaim := { program := "ytddgmlbbipakeaadoor", sum := "b557d5a99efe6309cedb3cf85c4b818a0e65199ccb80721295edc997d47fb4e1", func := "inlay/inlaylaw24.TrialStays", spec := "trialStays", unfollowed := true, recurses := true, named := ["inlay/trial.boots"], apart := false, laid := [("inlay/trial.boots", laid_inlay_trial_boots)] }
def TrialStaysSaid : Prop := trialStaysRow.holds Tryd.pinned (OpenSpec.ofChange trialStaysSpec)

/-- ITS FALSE NEIGHBOUR: 'it returns false'. Refute it at one input. -/
def trialStaysWrong : ChangeSpec := { name := "trialStays", fn := fun _ => fun
  | [d1, d2] => { results := [.lit (.bool false)], args := [d1, d2] }
  | _ => none }
def TrialStaysWrongFalsely : Prop := trialStaysRow.holds Tryd.pinned (OpenSpec.ofChange trialStaysWrong)

/-- 'inlaylaw24.TrialLast': WHATEVER THE INPUT: true; the input reads as it did. -/
def trialLastSpec : ChangeSpec := { name := "trialLast", fn := fun _ => fun
  | [d1, d2] => { results := [.lit (.bool true)], args := [d1, d2] }
  | _ => none }
def trialLastRow : OpenClaim := { program := "ytddgmlbbipakeaadoor", sum := "b557d5a99efe6309cedb3cf85c4b818a0e65199ccb80721295edc997d47fb4e1", func := "inlay/inlaylaw24.TrialLast", spec := "trialLast", unfollowed := true, recurses := true, named := ["inlay/trial.boots"], apart := false, laid := [("inlay/trial.boots", laid_inlay_trial_boots)] }
def TrialLastSaid : Prop := trialLastRow.holds Tryd.pinned (OpenSpec.ofChange trialLastSpec)

/-- ITS FALSE NEIGHBOUR: 'it returns false'. Refute it at one input. -/
def trialLastWrong : ChangeSpec := { name := "trialLast", fn := fun _ => fun
  | [d1, d2] => { results := [.lit (.bool false)], args := [d1, d2] }
  | _ => none }
def TrialLastWrongFalsely : Prop := trialLastRow.holds Tryd.pinned (OpenSpec.ofChange trialLastWrong)

/-- 'inlaylaw24.TrialPhases': WHATEVER THE INPUT: true; the input reads as it did. -/
def trialPhasesSpec : ChangeSpec := { name := "trialPhases", fn := fun _ => fun
  | [d1, d2] => { results := [.lit (.bool true)], args := [d1, d2] }
  | _ => none }
def trialPhasesRow : OpenClaim := { program := "ytddgmlbbipakeaadoor", sum := "b557d5a99efe6309cedb3cf85c4b818a0e65199ccb80721295edc997d47fb4e1", func := "inlay/inlaylaw24.TrialPhases", spec := "trialPhases", unfollowed := true, recurses := true, named := ["inlay/trial.boots"], apart := false, laid := [("inlay/trial.boots", laid_inlay_trial_boots)] }
def TrialPhasesSaid : Prop := trialPhasesRow.holds Tryd.pinned (OpenSpec.ofChange trialPhasesSpec)

/-- ITS FALSE NEIGHBOUR: 'it returns false'. Refute it at one input. -/
def trialPhasesWrong : ChangeSpec := { name := "trialPhases", fn := fun _ => fun
  | [d1, d2] => { results := [.lit (.bool false)], args := [d1, d2] }
  | _ => none }
def TrialPhasesWrongFalsely : Prop := trialPhasesRow.holds Tryd.pinned (OpenSpec.ofChange trialPhasesWrong)

/- THE SECOND FORM. 'bulk': how many values and letters a reading holds, each counted each time it is reached (what is shared counts as often as it is met; a slice's spare places count too). A statement '..UptoSaid' is the law's where the arguments, and the package variables that the reading takes, are together of bulk at most 1048576: NARROWER than '..Said'. Prove '..Said' where nothing that the law and all that it calls make is longer than what came in: it says more and counts as full. Else prove '..UptoSaid'. A law counts once. -/
mutual
def uptoBulk {H : Type} : DataW H → Nat
  | .lit (.string bytes) => bytes.length + 1
  | .lit _ => 1
  | .nil => 1
  | .ptr d => uptoBulk d + 1
  | .slice elems spare => uptoBulkAll elems + uptoBulkAll spare + 1
  | .agg parts => uptoBulkAll parts + 1
  | .iface _ d => uptoBulk d + 1
  | .map entries => uptoBulkEntries entries + 1
  | .held _ => 1
def uptoBulkAll {H : Type} : List (DataW H) → Nat
  | [] => 0
  | d :: r => uptoBulk d + uptoBulkAll r
def uptoBulkEntries {H : Type} : List (Lit × DataW H) → Nat
  | [] => 0
  | x :: r => uptoBulkEntry x + uptoBulkEntries r
def uptoBulkEntry {H : Type} : Lit × DataW H → Nat
  | (.string bytes, d) => bytes.length + uptoBulk d + 1
  | (_, d) => uptoBulk d + 1
 end
def uptoSmall : (H : Type) → List (DataW H) → Bool := fun _ ds => decide (uptoBulkAll ds ≤ 1048576)
def OpenSpec.upto (s : _root_.Go.ChangeSpec) : _root_.Go.OpenSpec := { _root_.Go.OpenSpec.ofChange s with cond := some uptoSmall }

/-- 'inlaylaw24.TrialMatchesReference', WHERE WHAT IT READS IS OF BULK AT MOST 1048576: true; the input reads as it did. -/
def trialMatchesReferenceUptoRow : OpenClaim := { program := "ytddgmlbbipakeaadoor", sum := "b557d5a99efe6309cedb3cf85c4b818a0e65199ccb80721295edc997d47fb4e1", func := "inlay/inlaylaw24.TrialMatchesReference", spec := "trialMatchesReference", unfollowed := true, recurses := true, named := ["inlay/trial.boots"], apart := false, laid := [("inlay/trial.boots", laid_inlay_trial_boots)], narrowed := true }
def TrialMatchesReferenceUptoSaid : Prop := trialMatchesReferenceUptoRow.holds Tryd.pinned (OpenSpec.upto trialMatchesReferenceSpec)

/-- 'inlaylaw24.TrialValid', WHERE WHAT IT READS IS OF BULK AT MOST 1048576: true; the input reads as it did. -/
def trialValidUptoRow : OpenClaim := { program := "ytddgmlbbipakeaadoor", sum := "b557d5a99efe6309cedb3cf85c4b818a0e65199ccb80721295edc997d47fb4e1", func := "inlay/inlaylaw24.TrialValid", spec := "trialValid", unfollowed := true, recurses := true, named := ["inlay/trial.boots"], apart := false, laid := [("inlay/trial.boots", laid_inlay_trial_boots)], narrowed := true }
def TrialValidUptoSaid : Prop := trialValidUptoRow.holds Tryd.pinned (OpenSpec.upto trialValidSpec)

/-- 'inlaylaw24.TrialKeeps', WHERE WHAT IT READS IS OF BULK AT MOST 1048576: true; the input reads as it did. -/
def trialKeepsUptoRow : OpenClaim := { program := "ytddgmlbbipakeaadoor", sum := "b557d5a99efe6309cedb3cf85c4b818a0e65199ccb80721295edc997d47fb4e1", func := "inlay/inlaylaw24.TrialKeeps", spec := "trialKeeps", unfollowed := true, recurses := true, named := ["inlay/trial.boots"], apart := false, laid := [("inlay/trial.boots", laid_inlay_trial_boots)], narrowed := true }
def TrialKeepsUptoSaid : Prop := trialKeepsUptoRow.holds Tryd.pinned (OpenSpec.upto trialKeepsSpec)

/-- 'inlaylaw24.TrialEnds', WHERE WHAT IT READS IS OF BULK AT MOST 1048576: true; the input reads as it did. -/
def trialEndsUptoRow : OpenClaim := { program := "ytddgmlbbipakeaadoor", sum := "b557d5a99efe6309cedb3cf85c4b818a0e65199ccb80721295edc997d47fb4e1", func := "inlay/inlaylaw24.TrialEnds", spec := "trialEnds", unfollowed := true, recurses := true, named := ["inlay/trial.boots"], apart := false, laid := [("inlay/trial.boots", laid_inlay_trial_boots)], narrowed := true }
def TrialEndsUptoSaid : Prop := trialEndsUptoRow.holds Tryd.pinned (OpenSpec.upto trialEndsSpec)

/-- 'inlaylaw24.TrialStays', WHERE WHAT IT READS IS OF BULK AT MOST 1048576: true; the input reads as it did. -/
def trialStaysUptoRow : OpenClaim := { program := "ytddgmlbbipakeaadoor", sum := "b557d5a99efe6309cedb3cf85c4b818a0e65199ccb80721295edc997d47fb4e1", func := "inlay/inlaylaw24.TrialStays", spec := "trialStays", unfollowed := true, recurses := true, named := ["inlay/trial.boots"], apart := false, laid := [("inlay/trial.boots", laid_inlay_trial_boots)], narrowed := true }
def TrialStaysUptoSaid : Prop := trialStaysUptoRow.holds Tryd.pinned (OpenSpec.upto trialStaysSpec)

/-- 'inlaylaw24.TrialLast', WHERE WHAT IT READS IS OF BULK AT MOST 1048576: true; the input reads as it did. -/
def trialLastUptoRow : OpenClaim := { program := "ytddgmlbbipakeaadoor", sum := "b557d5a99efe6309cedb3cf85c4b818a0e65199ccb80721295edc997d47fb4e1", func := "inlay/inlaylaw24.TrialLast", spec := "trialLast", unfollowed := true, recurses := true, named := ["inlay/trial.boots"], apart := false, laid := [("inlay/trial.boots", laid_inlay_trial_boots)], narrowed := true }
def TrialLastUptoSaid : Prop := trialLastUptoRow.holds Tryd.pinned (OpenSpec.upto trialLastSpec)

/-- 'inlaylaw24.TrialPhases', WHERE WHAT IT READS IS OF BULK AT MOST 1048576: true; the input reads as it did. -/
def trialPhasesUptoRow : OpenClaim := { program := "ytddgmlbbipakeaadoor", sum := "b557d5a99efe6309cedb3cf85c4b818a0e65199ccb80721295edc997d47fb4e1", func := "inlay/inlaylaw24.TrialPhases", spec := "trialPhases", unfollowed := true, recurses := true, named := ["inlay/trial.boots"], apart := false, laid := [("inlay/trial.boots", laid_inlay_trial_boots)], narrowed := true }
def TrialPhasesUptoSaid : Prop := trialPhasesUptoRow.holds Tryd.pinned (OpenSpec.upto trialPhasesSpec)

end Rows
end Go.Proofs.YtddgmlbbipakeaaDoor
