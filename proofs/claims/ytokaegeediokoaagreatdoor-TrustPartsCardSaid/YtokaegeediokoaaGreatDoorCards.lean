/-
  DERIVED. GIVEN WITH THE SEED: THE CARDS: each row of YtokaegeediokoaaGreatDoorRows.lean that lists a variable, with what it lists TIED to the program's text (the seventh form; the later family's looks); each row that meets fmt, with fmt's text TOLD by the authors' own Lean function (tested against real Go, not proved from fmt's source: count such statements apart). THE CARD IS WHAT COUNTS. Prove the row's statement (the work); the ties are given (YtokaegeediokoaaGreatDoorTie.lean); close each card by the builder's one call (the guide's Derived/Test/ToyasCard.lean, 'card_holds'). Laid BY PROGRAM, IN A SANDBOX (cutbox-door.mjs). By AI agents, Wed Nov 11 2026. No macro, syntax, notation, axiom, sorry.
-/
import Derived.Test.YtokaegeediokoaaGreatDoorRows
import GoSem.ClaimSeven
namespace Go.Proofs.YtokaegeediokoaaGreatDoor
namespace Rows

/-- THE TIED CARD OF 'inlaylaw27.TrustMatchesReference'. -/
def trustMatchesReferenceCard : Claim7 := { stood := { row := trustMatchesReferenceRow, standIns := [], harness := (true, "f1921b44c5f7275a621b034a4f06765e397c0d07d00917618f5fa5582e0eee4d"), looks := false }, kinds := [], alts := [], laidByText := true, laidKinds := [.data, .data, .sentinel], laidTests := true, laidLooks := .later }
def TrustMatchesReferenceCardSaid : Prop := Claim7.holds Tryz.pinned (.plain (OpenSpec.ofChange trustMatchesReferenceSpec)) trustMatchesReferenceCard

/-- THE TIED CARD OF 'inlaylaw27.TrustThreshold'. -/
def trustThresholdCard : Claim7 := { stood := { row := trustThresholdRow, standIns := [], harness := (true, "f1921b44c5f7275a621b034a4f06765e397c0d07d00917618f5fa5582e0eee4d"), looks := false }, kinds := [], alts := [], laidByText := true, laidKinds := [.data, .data, .sentinel], laidTests := true, laidLooks := .later }
def TrustThresholdCardSaid : Prop := Claim7.holds Tryz.pinned (.plain (OpenSpec.ofChange trustThresholdSpec)) trustThresholdCard

/-- THE TIED CARD OF 'inlaylaw27.TrustRepeats'. -/
def trustRepeatsCard : Claim7 := { stood := { row := trustRepeatsRow, standIns := [], harness := (true, "f1921b44c5f7275a621b034a4f06765e397c0d07d00917618f5fa5582e0eee4d"), looks := false }, kinds := [], alts := [], laidByText := true, laidKinds := [.data, .data, .sentinel], laidTests := true, laidLooks := .later }
def TrustRepeatsCardSaid : Prop := Claim7.holds Tryz.pinned (.plain (OpenSpec.ofChange trustRepeatsSpec)) trustRepeatsCard

/-- THE TIED CARD OF 'inlaylaw27.TrustRotates'. -/
def trustRotatesCard : Claim7 := { stood := { row := trustRotatesRow, standIns := [], harness := (true, "f1921b44c5f7275a621b034a4f06765e397c0d07d00917618f5fa5582e0eee4d"), looks := false }, kinds := [], alts := [], laidByText := true, laidKinds := [.data, .data, .sentinel], laidTests := true, laidLooks := .later }
def TrustRotatesCardSaid : Prop := Claim7.holds Tryz.pinned (.plain (OpenSpec.ofChange trustRotatesSpec)) trustRotatesCard

/-- THE TIED CARD OF 'inlaylaw27.TrustFloors'. -/
def trustFloorsCard : Claim7 := { stood := { row := trustFloorsRow, standIns := [], harness := (true, "f1921b44c5f7275a621b034a4f06765e397c0d07d00917618f5fa5582e0eee4d"), looks := false }, kinds := [], alts := [], laidByText := true, laidKinds := [.data, .data, .sentinel], laidTests := true, laidLooks := .later }
def TrustFloorsCardSaid : Prop := Claim7.holds Tryz.pinned (.plain (OpenSpec.ofChange trustFloorsSpec)) trustFloorsCard

/-- THE TIED CARD OF 'inlaylaw27.TrustErrors'. -/
def trustErrorsCard : Claim7 := { stood := { row := trustErrorsRow, standIns := [], harness := (true, "f1921b44c5f7275a621b034a4f06765e397c0d07d00917618f5fa5582e0eee4d"), looks := false }, kinds := [], alts := [], laidByText := true, laidKinds := [.data, .data, .sentinel], laidTests := true, laidLooks := .later }
def TrustErrorsCardSaid : Prop := Claim7.holds Tryz.pinned (.plain (OpenSpec.ofChange trustErrorsSpec)) trustErrorsCard

/-- THE TIED CARD OF 'inlaylaw27.TrustParts'. -/
def trustPartsCard : Claim7 := { stood := { row := trustPartsRow, standIns := [], harness := (true, "f1921b44c5f7275a621b034a4f06765e397c0d07d00917618f5fa5582e0eee4d"), looks := false }, kinds := [], alts := [], laidByText := true, laidKinds := [.data, .data, .sentinel], laidTests := true, laidLooks := .later }
def TrustPartsCardSaid : Prop := Claim7.holds Tryz.pinned (.plain (OpenSpec.ofChange trustPartsSpec)) trustPartsCard

/-- THE SECOND FORM's CARD OF 'inlaylaw27.TrustMatchesReference'. -/
def trustMatchesReferenceUptoCard : Claim7 := { stood := { row := trustMatchesReferenceUptoRow, standIns := [], harness := (true, "f1921b44c5f7275a621b034a4f06765e397c0d07d00917618f5fa5582e0eee4d"), looks := false }, kinds := [], alts := [], laidByText := true, laidKinds := [.data, .data, .sentinel], laidTests := true, laidLooks := .later }
def TrustMatchesReferenceUptoCardSaid : Prop := Claim7.holds Tryz.pinned (.plain (OpenSpec.upto trustMatchesReferenceSpec)) trustMatchesReferenceUptoCard

/-- THE SECOND FORM's CARD OF 'inlaylaw27.TrustThreshold'. -/
def trustThresholdUptoCard : Claim7 := { stood := { row := trustThresholdUptoRow, standIns := [], harness := (true, "f1921b44c5f7275a621b034a4f06765e397c0d07d00917618f5fa5582e0eee4d"), looks := false }, kinds := [], alts := [], laidByText := true, laidKinds := [.data, .data, .sentinel], laidTests := true, laidLooks := .later }
def TrustThresholdUptoCardSaid : Prop := Claim7.holds Tryz.pinned (.plain (OpenSpec.upto trustThresholdSpec)) trustThresholdUptoCard

/-- THE SECOND FORM's CARD OF 'inlaylaw27.TrustRepeats'. -/
def trustRepeatsUptoCard : Claim7 := { stood := { row := trustRepeatsUptoRow, standIns := [], harness := (true, "f1921b44c5f7275a621b034a4f06765e397c0d07d00917618f5fa5582e0eee4d"), looks := false }, kinds := [], alts := [], laidByText := true, laidKinds := [.data, .data, .sentinel], laidTests := true, laidLooks := .later }
def TrustRepeatsUptoCardSaid : Prop := Claim7.holds Tryz.pinned (.plain (OpenSpec.upto trustRepeatsSpec)) trustRepeatsUptoCard

/-- THE SECOND FORM's CARD OF 'inlaylaw27.TrustRotates'. -/
def trustRotatesUptoCard : Claim7 := { stood := { row := trustRotatesUptoRow, standIns := [], harness := (true, "f1921b44c5f7275a621b034a4f06765e397c0d07d00917618f5fa5582e0eee4d"), looks := false }, kinds := [], alts := [], laidByText := true, laidKinds := [.data, .data, .sentinel], laidTests := true, laidLooks := .later }
def TrustRotatesUptoCardSaid : Prop := Claim7.holds Tryz.pinned (.plain (OpenSpec.upto trustRotatesSpec)) trustRotatesUptoCard

/-- THE SECOND FORM's CARD OF 'inlaylaw27.TrustFloors'. -/
def trustFloorsUptoCard : Claim7 := { stood := { row := trustFloorsUptoRow, standIns := [], harness := (true, "f1921b44c5f7275a621b034a4f06765e397c0d07d00917618f5fa5582e0eee4d"), looks := false }, kinds := [], alts := [], laidByText := true, laidKinds := [.data, .data, .sentinel], laidTests := true, laidLooks := .later }
def TrustFloorsUptoCardSaid : Prop := Claim7.holds Tryz.pinned (.plain (OpenSpec.upto trustFloorsSpec)) trustFloorsUptoCard

/-- THE SECOND FORM's CARD OF 'inlaylaw27.TrustErrors'. -/
def trustErrorsUptoCard : Claim7 := { stood := { row := trustErrorsUptoRow, standIns := [], harness := (true, "f1921b44c5f7275a621b034a4f06765e397c0d07d00917618f5fa5582e0eee4d"), looks := false }, kinds := [], alts := [], laidByText := true, laidKinds := [.data, .data, .sentinel], laidTests := true, laidLooks := .later }
def TrustErrorsUptoCardSaid : Prop := Claim7.holds Tryz.pinned (.plain (OpenSpec.upto trustErrorsSpec)) trustErrorsUptoCard

/-- THE SECOND FORM's CARD OF 'inlaylaw27.TrustParts'. -/
def trustPartsUptoCard : Claim7 := { stood := { row := trustPartsUptoRow, standIns := [], harness := (true, "f1921b44c5f7275a621b034a4f06765e397c0d07d00917618f5fa5582e0eee4d"), looks := false }, kinds := [], alts := [], laidByText := true, laidKinds := [.data, .data, .sentinel], laidTests := true, laidLooks := .later }
def TrustPartsUptoCardSaid : Prop := Claim7.holds Tryz.pinned (.plain (OpenSpec.upto trustPartsSpec)) trustPartsUptoCard
end Rows
end Go.Proofs.YtokaegeediokoaaGreatDoor
