/-
  DERIVED. GIVEN WITH THE SEED: THE CARDS: each row of YtpbgihhfcdggkaaGreatDoorRows.lean that lists a variable, with what it lists TIED to the program's text (the seventh form; the later family's looks); each row that meets fmt, with fmt's text TOLD by the authors' own Lean function (tested against real Go, not proved from fmt's source: count such statements apart). THE CARD IS WHAT COUNTS. Prove the row's statement (the work); the ties are given (YtpbgihhfcdggkaaGreatDoorTie.lean); close each card by the builder's one call (the guide's Derived/Test/ToyasCard.lean, 'card_holds'). Laid BY PROGRAM, IN A SANDBOX (cutbox-door.mjs). By AI agents, Wed Nov 11 2026. No macro, syntax, notation, axiom, sorry.
-/
import Derived.Test.YtpbgihhfcdggkaaGreatDoorRows
import GoSem.ClaimSeven
namespace Go.Proofs.YtpbgihhfcdggkaaGreatDoor
namespace Rows

/-- THE TIED CARD OF 'inlaylaw23.SettingsMatchesReference'. -/
def settingsMatchesReferenceCard : Claim7 := { stood := { row := settingsMatchesReferenceRow, standIns := [], harness := (true, "032b471d6df3fcbe37b551fc2a6caaca0117e0c939a3b402f60b985d454d004f"), looks := true }, kinds := [], alts := [], laidByText := true, laidKinds := [.data, .data, .data, .data, .sentinel, .sentinel, .pinned], laidTests := true, laidLooks := .later }
def SettingsMatchesReferenceCardSaid : Prop := Claim7.holds Tryz.pinned (.plain (OpenSpec.ofChange settingsMatchesReferenceSpec)) settingsMatchesReferenceCard

/-- THE TIED CARD OF 'inlaylaw23.SettingsTexts'. -/
def settingsTextsCard : Claim7 := { stood := { row := settingsTextsRow, standIns := [], harness := (true, "032b471d6df3fcbe37b551fc2a6caaca0117e0c939a3b402f60b985d454d004f"), looks := true }, kinds := [], alts := [], laidByText := true, laidKinds := [.data, .data, .data, .data, .sentinel, .sentinel, .pinned], laidTests := true, laidLooks := .later }
def SettingsTextsCardSaid : Prop := Claim7.holds Tryz.pinned (.plain (OpenSpec.ofChange settingsTextsSpec)) settingsTextsCard

/-- THE TIED CARD OF 'inlaylaw23.SettingsValid'. -/
def settingsValidCard : Claim7 := { stood := { row := settingsValidRow, standIns := [], harness := (true, "032b471d6df3fcbe37b551fc2a6caaca0117e0c939a3b402f60b985d454d004f"), looks := true }, kinds := [], alts := [], laidByText := true, laidKinds := [.data, .data, .data, .data, .sentinel, .sentinel, .pinned], laidTests := true, laidLooks := .later }
def SettingsValidCardSaid : Prop := Claim7.holds Tryz.pinned (.plain (OpenSpec.ofChange settingsValidSpec)) settingsValidCard

/-- THE TIED CARD OF 'inlaylaw23.SettingsBack'. -/
def settingsBackCard : Claim7 := { stood := { row := settingsBackRow, standIns := [], harness := (true, "032b471d6df3fcbe37b551fc2a6caaca0117e0c939a3b402f60b985d454d004f"), looks := true }, kinds := [], alts := [], laidByText := true, laidKinds := [.data, .data, .data, .data, .sentinel, .sentinel, .pinned], laidTests := true, laidLooks := .later }
def SettingsBackCardSaid : Prop := Claim7.holds Tryz.pinned (.plain (OpenSpec.ofChange settingsBackSpec)) settingsBackCard

/-- THE TIED CARD OF 'inlaylaw23.SettingsRules'. -/
def settingsRulesCard : Claim7 := { stood := { row := settingsRulesRow, standIns := [], harness := (true, "032b471d6df3fcbe37b551fc2a6caaca0117e0c939a3b402f60b985d454d004f"), looks := true }, kinds := [], alts := [], laidByText := true, laidKinds := [.data, .data, .data, .data, .sentinel, .sentinel, .pinned], laidTests := true, laidLooks := .later }
def SettingsRulesCardSaid : Prop := Claim7.holds Tryz.pinned (.plain (OpenSpec.ofChange settingsRulesSpec)) settingsRulesCard

/-- THE TIED CARD OF 'inlaylaw23.SettingsOthers'. -/
def settingsOthersCard : Claim7 := { stood := { row := settingsOthersRow, standIns := [], harness := (true, "032b471d6df3fcbe37b551fc2a6caaca0117e0c939a3b402f60b985d454d004f"), looks := true }, kinds := [], alts := [], laidByText := true, laidKinds := [.data, .data, .data, .data, .sentinel, .sentinel, .pinned], laidTests := true, laidLooks := .later }
def SettingsOthersCardSaid : Prop := Claim7.holds Tryz.pinned (.plain (OpenSpec.ofChange settingsOthersSpec)) settingsOthersCard

/-- THE TIED CARD OF 'inlaylaw23.SettingsParts'. -/
def settingsPartsCard : Claim7 := { stood := { row := settingsPartsRow, standIns := [], harness := (true, "032b471d6df3fcbe37b551fc2a6caaca0117e0c939a3b402f60b985d454d004f"), looks := true }, kinds := [], alts := [], laidByText := true, laidKinds := [.data, .data, .data, .data, .sentinel, .sentinel, .pinned], laidTests := true, laidLooks := .later }
def SettingsPartsCardSaid : Prop := Claim7.holds Tryz.pinned (.plain (OpenSpec.ofChange settingsPartsSpec)) settingsPartsCard

/-- THE TIED CARD OF 'inlaylaw23.SettingsRefuses'. -/
def settingsRefusesCard : Claim7 := { stood := { row := settingsRefusesRow, standIns := [], harness := (true, "032b471d6df3fcbe37b551fc2a6caaca0117e0c939a3b402f60b985d454d004f"), looks := true }, kinds := [], alts := [], laidByText := true, laidKinds := [.data, .data, .data, .data, .sentinel, .sentinel, .pinned], laidTests := true, laidLooks := .later }
def SettingsRefusesCardSaid : Prop := Claim7.holds Tryz.pinned (.plain (OpenSpec.ofChange settingsRefusesSpec)) settingsRefusesCard

/-- THE SECOND FORM's CARD OF 'inlaylaw23.SettingsMatchesReference'. -/
def settingsMatchesReferenceUptoCard : Claim7 := { stood := { row := settingsMatchesReferenceUptoRow, standIns := [], harness := (true, "032b471d6df3fcbe37b551fc2a6caaca0117e0c939a3b402f60b985d454d004f"), looks := true }, kinds := [], alts := [], laidByText := true, laidKinds := [.data, .data, .data, .data, .sentinel, .sentinel, .pinned], laidTests := true, laidLooks := .later }
def SettingsMatchesReferenceUptoCardSaid : Prop := Claim7.holds Tryz.pinned (.plain (OpenSpec.upto settingsMatchesReferenceSpec)) settingsMatchesReferenceUptoCard

/-- THE SECOND FORM's CARD OF 'inlaylaw23.SettingsTexts'. -/
def settingsTextsUptoCard : Claim7 := { stood := { row := settingsTextsUptoRow, standIns := [], harness := (true, "032b471d6df3fcbe37b551fc2a6caaca0117e0c939a3b402f60b985d454d004f"), looks := true }, kinds := [], alts := [], laidByText := true, laidKinds := [.data, .data, .data, .data, .sentinel, .sentinel, .pinned], laidTests := true, laidLooks := .later }
def SettingsTextsUptoCardSaid : Prop := Claim7.holds Tryz.pinned (.plain (OpenSpec.upto settingsTextsSpec)) settingsTextsUptoCard

/-- THE SECOND FORM's CARD OF 'inlaylaw23.SettingsValid'. -/
def settingsValidUptoCard : Claim7 := { stood := { row := settingsValidUptoRow, standIns := [], harness := (true, "032b471d6df3fcbe37b551fc2a6caaca0117e0c939a3b402f60b985d454d004f"), looks := true }, kinds := [], alts := [], laidByText := true, laidKinds := [.data, .data, .data, .data, .sentinel, .sentinel, .pinned], laidTests := true, laidLooks := .later }
def SettingsValidUptoCardSaid : Prop := Claim7.holds Tryz.pinned (.plain (OpenSpec.upto settingsValidSpec)) settingsValidUptoCard

/-- THE SECOND FORM's CARD OF 'inlaylaw23.SettingsBack'. -/
def settingsBackUptoCard : Claim7 := { stood := { row := settingsBackUptoRow, standIns := [], harness := (true, "032b471d6df3fcbe37b551fc2a6caaca0117e0c939a3b402f60b985d454d004f"), looks := true }, kinds := [], alts := [], laidByText := true, laidKinds := [.data, .data, .data, .data, .sentinel, .sentinel, .pinned], laidTests := true, laidLooks := .later }
def SettingsBackUptoCardSaid : Prop := Claim7.holds Tryz.pinned (.plain (OpenSpec.upto settingsBackSpec)) settingsBackUptoCard

/-- THE SECOND FORM's CARD OF 'inlaylaw23.SettingsRules'. -/
def settingsRulesUptoCard : Claim7 := { stood := { row := settingsRulesUptoRow, standIns := [], harness := (true, "032b471d6df3fcbe37b551fc2a6caaca0117e0c939a3b402f60b985d454d004f"), looks := true }, kinds := [], alts := [], laidByText := true, laidKinds := [.data, .data, .data, .data, .sentinel, .sentinel, .pinned], laidTests := true, laidLooks := .later }
def SettingsRulesUptoCardSaid : Prop := Claim7.holds Tryz.pinned (.plain (OpenSpec.upto settingsRulesSpec)) settingsRulesUptoCard

/-- THE SECOND FORM's CARD OF 'inlaylaw23.SettingsOthers'. -/
def settingsOthersUptoCard : Claim7 := { stood := { row := settingsOthersUptoRow, standIns := [], harness := (true, "032b471d6df3fcbe37b551fc2a6caaca0117e0c939a3b402f60b985d454d004f"), looks := true }, kinds := [], alts := [], laidByText := true, laidKinds := [.data, .data, .data, .data, .sentinel, .sentinel, .pinned], laidTests := true, laidLooks := .later }
def SettingsOthersUptoCardSaid : Prop := Claim7.holds Tryz.pinned (.plain (OpenSpec.upto settingsOthersSpec)) settingsOthersUptoCard

/-- THE SECOND FORM's CARD OF 'inlaylaw23.SettingsParts'. -/
def settingsPartsUptoCard : Claim7 := { stood := { row := settingsPartsUptoRow, standIns := [], harness := (true, "032b471d6df3fcbe37b551fc2a6caaca0117e0c939a3b402f60b985d454d004f"), looks := true }, kinds := [], alts := [], laidByText := true, laidKinds := [.data, .data, .data, .data, .sentinel, .sentinel, .pinned], laidTests := true, laidLooks := .later }
def SettingsPartsUptoCardSaid : Prop := Claim7.holds Tryz.pinned (.plain (OpenSpec.upto settingsPartsSpec)) settingsPartsUptoCard

/-- THE SECOND FORM's CARD OF 'inlaylaw23.SettingsRefuses'. -/
def settingsRefusesUptoCard : Claim7 := { stood := { row := settingsRefusesUptoRow, standIns := [], harness := (true, "032b471d6df3fcbe37b551fc2a6caaca0117e0c939a3b402f60b985d454d004f"), looks := true }, kinds := [], alts := [], laidByText := true, laidKinds := [.data, .data, .data, .data, .sentinel, .sentinel, .pinned], laidTests := true, laidLooks := .later }
def SettingsRefusesUptoCardSaid : Prop := Claim7.holds Tryz.pinned (.plain (OpenSpec.upto settingsRefusesSpec)) settingsRefusesUptoCard
end Rows
end Go.Proofs.YtpbgihhfcdggkaaGreatDoor
