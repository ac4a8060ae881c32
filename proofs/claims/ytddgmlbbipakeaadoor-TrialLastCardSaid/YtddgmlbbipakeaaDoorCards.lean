/-
  DERIVED. GIVEN WITH THE SEED: THE CARDS: each row of YtddgmlbbipakeaaDoorRows.lean that lists a variable, with what it lists TIED to the program's text (the seventh form; the later family's looks); each row that meets fmt, with fmt's text TOLD by the authors' own Lean function (tested against real Go, not proved from fmt's source: count such statements apart). THE CARD IS WHAT COUNTS. Prove the row's statement (the work); the ties are given (YtddgmlbbipakeaaDoorTie.lean); close each card by the builder's one call (the guide's Derived/Test/ToyasCard.lean, 'card_holds'). Laid BY PROGRAM, IN A SANDBOX (cutbox-door.mjs). By AI agents, Wed Nov 11 2026. No macro, syntax, notation, axiom, sorry.
-/
import Derived.Test.YtddgmlbbipakeaaDoorRows
import GoSem.ClaimSeven
namespace Go.Proofs.YtddgmlbbipakeaaDoor
namespace Rows

/-- THE TIED CARD OF 'inlaylaw24.TrialMatchesReference'. -/
def trialMatchesReferenceCard : Claim7 := { stood := { row := trialMatchesReferenceRow, standIns := [], harness := (true, "286376d21168d29ca7fdfe5982e3b787f82818e694fd315214b377c18e28b49c"), looks := false }, kinds := [], alts := [], laidByText := true, laidKinds := [.funcs], laidTests := true, laidLooks := .later }
def TrialMatchesReferenceCardSaid : Prop := Claim7.holds Tryd.pinned (.plain (OpenSpec.ofChange trialMatchesReferenceSpec)) trialMatchesReferenceCard

/-- THE TIED CARD OF 'inlaylaw24.TrialValid'. -/
def trialValidCard : Claim7 := { stood := { row := trialValidRow, standIns := [], harness := (true, "286376d21168d29ca7fdfe5982e3b787f82818e694fd315214b377c18e28b49c"), looks := false }, kinds := [], alts := [], laidByText := true, laidKinds := [.funcs], laidTests := true, laidLooks := .later }
def TrialValidCardSaid : Prop := Claim7.holds Tryd.pinned (.plain (OpenSpec.ofChange trialValidSpec)) trialValidCard

/-- THE TIED CARD OF 'inlaylaw24.TrialKeeps'. -/
def trialKeepsCard : Claim7 := { stood := { row := trialKeepsRow, standIns := [], harness := (true, "286376d21168d29ca7fdfe5982e3b787f82818e694fd315214b377c18e28b49c"), looks := false }, kinds := [], alts := [], laidByText := true, laidKinds := [.funcs], laidTests := true, laidLooks := .later }
def TrialKeepsCardSaid : Prop := Claim7.holds Tryd.pinned (.plain (OpenSpec.ofChange trialKeepsSpec)) trialKeepsCard

/-- THE TIED CARD OF 'inlaylaw24.TrialEnds'. -/
def trialEndsCard : Claim7 := { stood := { row := trialEndsRow, standIns := [], harness := (true, "286376d21168d29ca7fdfe5982e3b787f82818e694fd315214b377c18e28b49c"), looks := false }, kinds := [], alts := [], laidByText := true, laidKinds := [.funcs], laidTests := true, laidLooks := .later }
def TrialEndsCardSaid : Prop := Claim7.holds Tryd.pinned (.plain (OpenSpec.ofChange trialEndsSpec)) trialEndsCard

/-- THE TIED CARD OF 'inlaylaw24.TrialStays'. -/
def trialStaysCard : Claim7 := { stood := { row := trialStaysRow, standIns := [], harness := (true, "286376d21168d29ca7fdfe5982e3b787f82818e694fd315214b377c18e28b49c"), looks := false }, kinds := [], alts := [], laidByText := true, laidKinds := [.funcs], laidTests := true, laidLooks := .later }
def TrialStaysCardSaid : Prop := Claim7.holds Tryd.pinned (.plain (OpenSpec.ofChange trialStaysSpec)) trialStaysCard

/-- THE TIED CARD OF 'inlaylaw24.TrialLast'. -/
def trialLastCard : Claim7 := { stood := { row := trialLastRow, standIns := [], harness := (true, "286376d21168d29ca7fdfe5982e3b787f82818e694fd315214b377c18e28b49c"), looks := false }, kinds := [], alts := [], laidByText := true, laidKinds := [.funcs], laidTests := true, laidLooks := .later }
def TrialLastCardSaid : Prop := Claim7.holds Tryd.pinned (.plain (OpenSpec.ofChange trialLastSpec)) trialLastCard

/-- THE TIED CARD OF 'inlaylaw24.TrialPhases'. -/
def trialPhasesCard : Claim7 := { stood := { row := trialPhasesRow, standIns := [], harness := (true, "286376d21168d29ca7fdfe5982e3b787f82818e694fd315214b377c18e28b49c"), looks := false }, kinds := [], alts := [], laidByText := true, laidKinds := [.funcs], laidTests := true, laidLooks := .later }
def TrialPhasesCardSaid : Prop := Claim7.holds Tryd.pinned (.plain (OpenSpec.ofChange trialPhasesSpec)) trialPhasesCard

/-- THE SECOND FORM's CARD OF 'inlaylaw24.TrialMatchesReference'. -/
def trialMatchesReferenceUptoCard : Claim7 := { stood := { row := trialMatchesReferenceUptoRow, standIns := [], harness := (true, "286376d21168d29ca7fdfe5982e3b787f82818e694fd315214b377c18e28b49c"), looks := false }, kinds := [], alts := [], laidByText := true, laidKinds := [.funcs], laidTests := true, laidLooks := .later }
def TrialMatchesReferenceUptoCardSaid : Prop := Claim7.holds Tryd.pinned (.plain (OpenSpec.upto trialMatchesReferenceSpec)) trialMatchesReferenceUptoCard

/-- THE SECOND FORM's CARD OF 'inlaylaw24.TrialValid'. -/
def trialValidUptoCard : Claim7 := { stood := { row := trialValidUptoRow, standIns := [], harness := (true, "286376d21168d29ca7fdfe5982e3b787f82818e694fd315214b377c18e28b49c"), looks := false }, kinds := [], alts := [], laidByText := true, laidKinds := [.funcs], laidTests := true, laidLooks := .later }
def TrialValidUptoCardSaid : Prop := Claim7.holds Tryd.pinned (.plain (OpenSpec.upto trialValidSpec)) trialValidUptoCard

/-- THE SECOND FORM's CARD OF 'inlaylaw24.TrialKeeps'. -/
def trialKeepsUptoCard : Claim7 := { stood := { row := trialKeepsUptoRow, standIns := [], harness := (true, "286376d21168d29ca7fdfe5982e3b787f82818e694fd315214b377c18e28b49c"), looks := false }, kinds := [], alts := [], laidByText := true, laidKinds := [.funcs], laidTests := true, laidLooks := .later }
def TrialKeepsUptoCardSaid : Prop := Claim7.holds Tryd.pinned (.plain (OpenSpec.upto trialKeepsSpec)) trialKeepsUptoCard

/-- THE SECOND FORM's CARD OF 'inlaylaw24.TrialEnds'. -/
def trialEndsUptoCard : Claim7 := { stood := { row := trialEndsUptoRow, standIns := [], harness := (true, "286376d21168d29ca7fdfe5982e3b787f82818e694fd315214b377c18e28b49c"), looks := false }, kinds := [], alts := [], laidByText := true, laidKinds := [.funcs], laidTests := true, laidLooks := .later }
def TrialEndsUptoCardSaid : Prop := Claim7.holds Tryd.pinned (.plain (OpenSpec.upto trialEndsSpec)) trialEndsUptoCard

/-- THE SECOND FORM's CARD OF 'inlaylaw24.TrialStays'. -/
def trialStaysUptoCard : Claim7 := { stood := { row := trialStaysUptoRow, standIns := [], harness := (true, "286376d21168d29ca7fdfe5982e3b787f82818e694fd315214b377c18e28b49c"), looks := false }, kinds := [], alts := [], laidByText := true, laidKinds := [.funcs], laidTests := true, laidLooks := .later }
def TrialStaysUptoCardSaid : Prop := Claim7.holds Tryd.pinned (.plain (OpenSpec.upto trialStaysSpec)) trialStaysUptoCard

/-- THE SECOND FORM's CARD OF 'inlaylaw24.TrialLast'. -/
def trialLastUptoCard : Claim7 := { stood := { row := trialLastUptoRow, standIns := [], harness := (true, "286376d21168d29ca7fdfe5982e3b787f82818e694fd315214b377c18e28b49c"), looks := false }, kinds := [], alts := [], laidByText := true, laidKinds := [.funcs], laidTests := true, laidLooks := .later }
def TrialLastUptoCardSaid : Prop := Claim7.holds Tryd.pinned (.plain (OpenSpec.upto trialLastSpec)) trialLastUptoCard

/-- THE SECOND FORM's CARD OF 'inlaylaw24.TrialPhases'. -/
def trialPhasesUptoCard : Claim7 := { stood := { row := trialPhasesUptoRow, standIns := [], harness := (true, "286376d21168d29ca7fdfe5982e3b787f82818e694fd315214b377c18e28b49c"), looks := false }, kinds := [], alts := [], laidByText := true, laidKinds := [.funcs], laidTests := true, laidLooks := .later }
def TrialPhasesUptoCardSaid : Prop := Claim7.holds Tryd.pinned (.plain (OpenSpec.upto trialPhasesSpec)) trialPhasesUptoCard
end Rows
end Go.Proofs.YtddgmlbbipakeaaDoor
