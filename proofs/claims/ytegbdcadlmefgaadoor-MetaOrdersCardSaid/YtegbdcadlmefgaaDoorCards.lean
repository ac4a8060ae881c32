/-
  DERIVED. GIVEN WITH THE SEED: THE CARDS: each row of YtegbdcadlmefgaaDoorRows.lean that lists a variable, with what it lists TIED to the program's text (the seventh form; the later family's looks); each row that meets fmt, with fmt's text TOLD by the authors' own Lean function (tested against real Go, not proved from fmt's source: count such statements apart). THE CARD IS WHAT COUNTS. Prove the row's statement (the work); the ties are given (YtegbdcadlmefgaaDoorTie.lean); close each card by the builder's one call (the guide's Derived/Test/ToyasCard.lean, 'card_holds'). Laid BY PROGRAM, IN A SANDBOX (cutbox-door.mjs). By AI agents, Wed Nov 11 2026. No macro, syntax, notation, axiom, sorry.
-/
import Derived.Test.YtegbdcadlmefgaaDoorRows
import GoSem.ClaimSeven
namespace Go.Proofs.YtegbdcadlmefgaaDoor
namespace Rows

/-- THE TIED CARD OF 'inlaylaw26.MetaMatchesReference'. -/
def metaMatchesReferenceCard : Claim7 := { stood := { row := metaMatchesReferenceRow, standIns := [], harness := (true, "9dce1f7a44e9b01d80332148a030e4e76cea2e816c239e01c042c2b507c6f33b"), looks := false }, kinds := [], alts := [], laidByText := true, laidKinds := [.sentinel], laidTests := true, laidLooks := .later }
def MetaMatchesReferenceCardSaid : Prop := Claim7.holds Tryd.pinned (.plain (OpenSpec.ofChange metaMatchesReferenceSpec)) metaMatchesReferenceCard

/-- THE TIED CARD OF 'inlaylaw26.MetaRoundTrips'. -/
def metaRoundTripsCard : Claim7 := { stood := { row := metaRoundTripsRow, standIns := [], harness := (true, "9dce1f7a44e9b01d80332148a030e4e76cea2e816c239e01c042c2b507c6f33b"), looks := false }, kinds := [], alts := [], laidByText := true, laidKinds := [.sentinel], laidTests := true, laidLooks := .later }
def MetaRoundTripsCardSaid : Prop := Claim7.holds Tryd.pinned (.plain (OpenSpec.ofChange metaRoundTripsSpec)) metaRoundTripsCard

/-- THE TIED CARD OF 'inlaylaw26.MetaParses'. -/
def metaParsesCard : Claim7 := { stood := { row := metaParsesRow, standIns := [], harness := (true, "9dce1f7a44e9b01d80332148a030e4e76cea2e816c239e01c042c2b507c6f33b"), looks := false }, kinds := [], alts := [], laidByText := true, laidKinds := [.sentinel], laidTests := true, laidLooks := .later }
def MetaParsesCardSaid : Prop := Claim7.holds Tryd.pinned (.plain (OpenSpec.ofChange metaParsesSpec)) metaParsesCard

/-- THE TIED CARD OF 'inlaylaw26.MetaRootParses'. -/
def metaRootParsesCard : Claim7 := { stood := { row := metaRootParsesRow, standIns := [], harness := (true, "9dce1f7a44e9b01d80332148a030e4e76cea2e816c239e01c042c2b507c6f33b"), looks := false }, kinds := [], alts := [], laidByText := true, laidKinds := [.sentinel], laidTests := true, laidLooks := .later }
def MetaRootParsesCardSaid : Prop := Claim7.holds Tryd.pinned (.plain (OpenSpec.ofChange metaRootParsesSpec)) metaRootParsesCard

/-- THE TIED CARD OF 'inlaylaw26.MetaDiffers'. -/
def metaDiffersCard : Claim7 := { stood := { row := metaDiffersRow, standIns := [], harness := (true, "9dce1f7a44e9b01d80332148a030e4e76cea2e816c239e01c042c2b507c6f33b"), looks := false }, kinds := [], alts := [], laidByText := true, laidKinds := [.sentinel], laidTests := true, laidLooks := .later }
def MetaDiffersCardSaid : Prop := Claim7.holds Tryd.pinned (.plain (OpenSpec.ofChange metaDiffersSpec)) metaDiffersCard

/-- THE TIED CARD OF 'inlaylaw26.MetaLengths'. -/
def metaLengthsCard : Claim7 := { stood := { row := metaLengthsRow, standIns := [], harness := (true, "9dce1f7a44e9b01d80332148a030e4e76cea2e816c239e01c042c2b507c6f33b"), looks := false }, kinds := [], alts := [], laidByText := true, laidKinds := [.sentinel], laidTests := true, laidLooks := .later }
def MetaLengthsCardSaid : Prop := Claim7.holds Tryd.pinned (.plain (OpenSpec.ofChange metaLengthsSpec)) metaLengthsCard

/-- THE TIED CARD OF 'inlaylaw26.MetaLimits'. -/
def metaLimitsCard : Claim7 := { stood := { row := metaLimitsRow, standIns := [], harness := (true, "9dce1f7a44e9b01d80332148a030e4e76cea2e816c239e01c042c2b507c6f33b"), looks := false }, kinds := [], alts := [], laidByText := true, laidKinds := [.sentinel], laidTests := true, laidLooks := .later }
def MetaLimitsCardSaid : Prop := Claim7.holds Tryd.pinned (.plain (OpenSpec.ofChange metaLimitsSpec)) metaLimitsCard

/-- THE TIED CARD OF 'inlaylaw26.MetaOrders'. -/
def metaOrdersCard : Claim7 := { stood := { row := metaOrdersRow, standIns := [], harness := (true, "9dce1f7a44e9b01d80332148a030e4e76cea2e816c239e01c042c2b507c6f33b"), looks := false }, kinds := [], alts := [], laidByText := true, laidKinds := [.sentinel], laidTests := true, laidLooks := .later }
def MetaOrdersCardSaid : Prop := Claim7.holds Tryd.pinned (.plain (OpenSpec.ofChange metaOrdersSpec)) metaOrdersCard

/-- THE SECOND FORM's CARD OF 'inlaylaw26.MetaMatchesReference'. -/
def metaMatchesReferenceUptoCard : Claim7 := { stood := { row := metaMatchesReferenceUptoRow, standIns := [], harness := (true, "9dce1f7a44e9b01d80332148a030e4e76cea2e816c239e01c042c2b507c6f33b"), looks := false }, kinds := [], alts := [], laidByText := true, laidKinds := [.sentinel], laidTests := true, laidLooks := .later }
def MetaMatchesReferenceUptoCardSaid : Prop := Claim7.holds Tryd.pinned (.plain (OpenSpec.upto metaMatchesReferenceSpec)) metaMatchesReferenceUptoCard

/-- THE SECOND FORM's CARD OF 'inlaylaw26.MetaRoundTrips'. -/
def metaRoundTripsUptoCard : Claim7 := { stood := { row := metaRoundTripsUptoRow, standIns := [], harness := (true, "9dce1f7a44e9b01d80332148a030e4e76cea2e816c239e01c042c2b507c6f33b"), looks := false }, kinds := [], alts := [], laidByText := true, laidKinds := [.sentinel], laidTests := true, laidLooks := .later }
def MetaRoundTripsUptoCardSaid : Prop := Claim7.holds Tryd.pinned (.plain (OpenSpec.upto metaRoundTripsSpec)) metaRoundTripsUptoCard

/-- THE SECOND FORM's CARD OF 'inlaylaw26.MetaParses'. -/
def metaParsesUptoCard : Claim7 := { stood := { row := metaParsesUptoRow, standIns := [], harness := (true, "9dce1f7a44e9b01d80332148a030e4e76cea2e816c239e01c042c2b507c6f33b"), looks := false }, kinds := [], alts := [], laidByText := true, laidKinds := [.sentinel], laidTests := true, laidLooks := .later }
def MetaParsesUptoCardSaid : Prop := Claim7.holds Tryd.pinned (.plain (OpenSpec.upto metaParsesSpec)) metaParsesUptoCard

/-- THE SECOND FORM's CARD OF 'inlaylaw26.MetaRootParses'. -/
def metaRootParsesUptoCard : Claim7 := { stood := { row := metaRootParsesUptoRow, standIns := [], harness := (true, "9dce1f7a44e9b01d80332148a030e4e76cea2e816c239e01c042c2b507c6f33b"), looks := false }, kinds := [], alts := [], laidByText := true, laidKinds := [.sentinel], laidTests := true, laidLooks := .later }
def MetaRootParsesUptoCardSaid : Prop := Claim7.holds Tryd.pinned (.plain (OpenSpec.upto metaRootParsesSpec)) metaRootParsesUptoCard

/-- THE SECOND FORM's CARD OF 'inlaylaw26.MetaDiffers'. -/
def metaDiffersUptoCard : Claim7 := { stood := { row := metaDiffersUptoRow, standIns := [], harness := (true, "9dce1f7a44e9b01d80332148a030e4e76cea2e816c239e01c042c2b507c6f33b"), looks := false }, kinds := [], alts := [], laidByText := true, laidKinds := [.sentinel], laidTests := true, laidLooks := .later }
def MetaDiffersUptoCardSaid : Prop := Claim7.holds Tryd.pinned (.plain (OpenSpec.upto metaDiffersSpec)) metaDiffersUptoCard

/-- THE SECOND FORM's CARD OF 'inlaylaw26.MetaLengths'. -/
def metaLengthsUptoCard : Claim7 := { stood := { row := metaLengthsUptoRow, standIns := [], harness := (true, "9dce1f7a44e9b01d80332148a030e4e76cea2e816c239e01c042c2b507c6f33b"), looks := false }, kinds := [], alts := [], laidByText := true, laidKinds := [.sentinel], laidTests := true, laidLooks := .later }
def MetaLengthsUptoCardSaid : Prop := Claim7.holds Tryd.pinned (.plain (OpenSpec.upto metaLengthsSpec)) metaLengthsUptoCard

/-- THE SECOND FORM's CARD OF 'inlaylaw26.MetaLimits'. -/
def metaLimitsUptoCard : Claim7 := { stood := { row := metaLimitsUptoRow, standIns := [], harness := (true, "9dce1f7a44e9b01d80332148a030e4e76cea2e816c239e01c042c2b507c6f33b"), looks := false }, kinds := [], alts := [], laidByText := true, laidKinds := [.sentinel], laidTests := true, laidLooks := .later }
def MetaLimitsUptoCardSaid : Prop := Claim7.holds Tryd.pinned (.plain (OpenSpec.upto metaLimitsSpec)) metaLimitsUptoCard

/-- THE SECOND FORM's CARD OF 'inlaylaw26.MetaOrders'. -/
def metaOrdersUptoCard : Claim7 := { stood := { row := metaOrdersUptoRow, standIns := [], harness := (true, "9dce1f7a44e9b01d80332148a030e4e76cea2e816c239e01c042c2b507c6f33b"), looks := false }, kinds := [], alts := [], laidByText := true, laidKinds := [.sentinel], laidTests := true, laidLooks := .later }
def MetaOrdersUptoCardSaid : Prop := Claim7.holds Tryd.pinned (.plain (OpenSpec.upto metaOrdersSpec)) metaOrdersUptoCard
end Rows
end Go.Proofs.YtegbdcadlmefgaaDoor
