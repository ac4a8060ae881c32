/-
  DERIVED. GIVEN WITH THE SEED: THE CARDS: each row of YtcnpgmohnclojaaDoorRows.lean that lists a variable, with what it lists TIED to the program's text (the seventh form; the later family's looks); each row that meets fmt, with fmt's text TOLD by the authors' own Lean function (tested against real Go, not proved from fmt's source: count such statements apart). THE CARD IS WHAT COUNTS. Prove the row's statement (the work); the ties are given (YtcnpgmohnclojaaDoorTie.lean); close each card by the builder's one call (the guide's Derived/Test/ToyasCard.lean, 'card_holds'). Laid BY PROGRAM, IN A SANDBOX (cutbox-door.mjs). By AI agents, Wed Nov 11 2026. No macro, syntax, notation, axiom, sorry.
-/
import Derived.Test.YtcnpgmohnclojaaDoorRows
import GoSem.ClaimSeven
namespace Go.Proofs.YtcnpgmohnclojaaDoor
namespace Rows

/-- THE TIED CARD OF 'inlaylaw13.CoderMatchesReference'. -/
def coderMatchesReferenceCard : Claim7 := { stood := { row := coderMatchesReferenceRow, standIns := [], harness := (true, "1c30f0d04bb05c337cd370ba86a0730b01a12885794030820952bc3bc6d8f59f"), looks := false }, kinds := [], alts := [], laidByText := true, laidKinds := [.data, .pinned], laidTests := true, laidLooks := .later }
def CoderMatchesReferenceCardSaid : Prop := Claim7.holds Tryd.pinned (.plain (OpenSpec.ofChange coderMatchesReferenceSpec)) coderMatchesReferenceCard

/-- THE TIED CARD OF 'inlaylaw13.CoderInverts'. -/
def coderInvertsCard : Claim7 := { stood := { row := coderInvertsRow, standIns := [], harness := (true, "1c30f0d04bb05c337cd370ba86a0730b01a12885794030820952bc3bc6d8f59f"), looks := false }, kinds := [], alts := [], laidByText := true, laidKinds := [.data, .pinned], laidTests := true, laidLooks := .later }
def CoderInvertsCardSaid : Prop := Claim7.holds Tryd.pinned (.plain (OpenSpec.ofChange coderInvertsSpec)) coderInvertsCard

/-- THE TIED CARD OF 'inlaylaw13.CoderCodes'. -/
def coderCodesCard : Claim7 := { stood := { row := coderCodesRow, standIns := [], harness := (true, "1c30f0d04bb05c337cd370ba86a0730b01a12885794030820952bc3bc6d8f59f"), looks := false }, kinds := [], alts := [], laidByText := true, laidKinds := [.data, .pinned], laidTests := true, laidLooks := .later }
def CoderCodesCardSaid : Prop := Claim7.holds Tryd.pinned (.plain (OpenSpec.ofChange coderCodesSpec)) coderCodesCard

/-- THE TIED CARD OF 'inlaylaw13.CoderDiffers'. -/
def coderDiffersCard : Claim7 := { stood := { row := coderDiffersRow, standIns := [], harness := (true, "1c30f0d04bb05c337cd370ba86a0730b01a12885794030820952bc3bc6d8f59f"), looks := false }, kinds := [], alts := [], laidByText := true, laidKinds := [.data, .pinned], laidTests := true, laidLooks := .later }
def CoderDiffersCardSaid : Prop := Claim7.holds Tryd.pinned (.plain (OpenSpec.ofChange coderDiffersSpec)) coderDiffersCard

/-- THE TIED CARD OF 'inlaylaw13.CoderSizes'. -/
def coderSizesCard : Claim7 := { stood := { row := coderSizesRow, standIns := [], harness := (true, "1c30f0d04bb05c337cd370ba86a0730b01a12885794030820952bc3bc6d8f59f"), looks := false }, kinds := [], alts := [], laidByText := true, laidKinds := [.data, .pinned], laidTests := true, laidLooks := .later }
def CoderSizesCardSaid : Prop := Claim7.holds Tryd.pinned (.plain (OpenSpec.ofChange coderSizesSpec)) coderSizesCard

/-- THE TIED CARD OF 'inlaylaw13.CoderZeros'. -/
def coderZerosCard : Claim7 := { stood := { row := coderZerosRow, standIns := [], harness := (true, "1c30f0d04bb05c337cd370ba86a0730b01a12885794030820952bc3bc6d8f59f"), looks := false }, kinds := [], alts := [], laidByText := true, laidKinds := [.data, .pinned], laidTests := true, laidLooks := .later }
def CoderZerosCardSaid : Prop := Claim7.holds Tryd.pinned (.plain (OpenSpec.ofChange coderZerosSpec)) coderZerosCard

/-- THE TIED CARD OF 'inlaylaw13.CoderTables'. -/
def coderTablesCard : Claim7 := { stood := { row := coderTablesRow, standIns := [], harness := (true, "1c30f0d04bb05c337cd370ba86a0730b01a12885794030820952bc3bc6d8f59f"), looks := false }, kinds := [], alts := [], laidByText := true, laidKinds := [.data, .pinned], laidTests := true, laidLooks := .later }
def CoderTablesCardSaid : Prop := Claim7.holds Tryd.pinned (.plain (OpenSpec.ofChange coderTablesSpec)) coderTablesCard

/-- THE SECOND FORM's CARD OF 'inlaylaw13.CoderMatchesReference'. -/
def coderMatchesReferenceUptoCard : Claim7 := { stood := { row := coderMatchesReferenceUptoRow, standIns := [], harness := (true, "1c30f0d04bb05c337cd370ba86a0730b01a12885794030820952bc3bc6d8f59f"), looks := false }, kinds := [], alts := [], laidByText := true, laidKinds := [.data, .pinned], laidTests := true, laidLooks := .later }
def CoderMatchesReferenceUptoCardSaid : Prop := Claim7.holds Tryd.pinned (.plain (OpenSpec.upto coderMatchesReferenceSpec)) coderMatchesReferenceUptoCard

/-- THE SECOND FORM's CARD OF 'inlaylaw13.CoderInverts'. -/
def coderInvertsUptoCard : Claim7 := { stood := { row := coderInvertsUptoRow, standIns := [], harness := (true, "1c30f0d04bb05c337cd370ba86a0730b01a12885794030820952bc3bc6d8f59f"), looks := false }, kinds := [], alts := [], laidByText := true, laidKinds := [.data, .pinned], laidTests := true, laidLooks := .later }
def CoderInvertsUptoCardSaid : Prop := Claim7.holds Tryd.pinned (.plain (OpenSpec.upto coderInvertsSpec)) coderInvertsUptoCard

/-- THE SECOND FORM's CARD OF 'inlaylaw13.CoderCodes'. -/
def coderCodesUptoCard : Claim7 := { stood := { row := coderCodesUptoRow, standIns := [], harness := (true, "1c30f0d04bb05c337cd370ba86a0730b01a12885794030820952bc3bc6d8f59f"), looks := false }, kinds := [], alts := [], laidByText := true, laidKinds := [.data, .pinned], laidTests := true, laidLooks := .later }
def CoderCodesUptoCardSaid : Prop := Claim7.holds Tryd.pinned (.plain (OpenSpec.upto coderCodesSpec)) coderCodesUptoCard

/-- THE SECOND FORM's CARD OF 'inlaylaw13.CoderDiffers'. -/
def coderDiffersUptoCard : Claim7 := { stood := { row := coderDiffersUptoRow, standIns := [], harness := (true, "1c30f0d04bb05c337cd370ba86a0730b01a12885794030820952bc3bc6d8f59f"), looks := false }, kinds := [], alts := [], laidByText := true, laidKinds := [.data, .pinned], laidTests := true, laidLooks := .later }
def CoderDiffersUptoCardSaid : Prop := Claim7.holds Tryd.pinned (.plain (OpenSpec.upto coderDiffersSpec)) coderDiffersUptoCard

/-- THE SECOND FORM's CARD OF 'inlaylaw13.CoderSizes'. -/
def coderSizesUptoCard : Claim7 := { stood := { row := coderSizesUptoRow, standIns := [], harness := (true, "1c30f0d04bb05c337cd370ba86a0730b01a12885794030820952bc3bc6d8f59f"), looks := false }, kinds := [], alts := [], laidByText := true, laidKinds := [.data, .pinned], laidTests := true, laidLooks := .later }
def CoderSizesUptoCardSaid : Prop := Claim7.holds Tryd.pinned (.plain (OpenSpec.upto coderSizesSpec)) coderSizesUptoCard

/-- THE SECOND FORM's CARD OF 'inlaylaw13.CoderZeros'. -/
def coderZerosUptoCard : Claim7 := { stood := { row := coderZerosUptoRow, standIns := [], harness := (true, "1c30f0d04bb05c337cd370ba86a0730b01a12885794030820952bc3bc6d8f59f"), looks := false }, kinds := [], alts := [], laidByText := true, laidKinds := [.data, .pinned], laidTests := true, laidLooks := .later }
def CoderZerosUptoCardSaid : Prop := Claim7.holds Tryd.pinned (.plain (OpenSpec.upto coderZerosSpec)) coderZerosUptoCard

/-- THE SECOND FORM's CARD OF 'inlaylaw13.CoderTables'. -/
def coderTablesUptoCard : Claim7 := { stood := { row := coderTablesUptoRow, standIns := [], harness := (true, "1c30f0d04bb05c337cd370ba86a0730b01a12885794030820952bc3bc6d8f59f"), looks := false }, kinds := [], alts := [], laidByText := true, laidKinds := [.data, .pinned], laidTests := true, laidLooks := .later }
def CoderTablesUptoCardSaid : Prop := Claim7.holds Tryd.pinned (.plain (OpenSpec.upto coderTablesSpec)) coderTablesUptoCard
end Rows
end Go.Proofs.YtcnpgmohnclojaaDoor
