/-
  DERIVED. GIVEN WITH THE SEED: THE CARDS: each row of YtmmpflifajjbjaaDoorRows.lean that lists a variable, with what it lists TIED to the program's text (the seventh form; the later family's looks); each row that meets fmt, with fmt's text TOLD by the authors' own Lean function (tested against real Go, not proved from fmt's source: count such statements apart). THE CARD IS WHAT COUNTS. Prove the row's statement (the work); the ties are given (YtmmpflifajjbjaaDoorTie.lean); close each card by the builder's one call (the guide's Derived/Test/ToyasCard.lean, 'card_holds'). Laid BY PROGRAM, IN A SANDBOX (cutbox-door.mjs). By AI agents, Wed Nov 11 2026. No macro, syntax, notation, axiom, sorry.
-/
import Derived.Test.YtmmpflifajjbjaaDoorRows
import GoSem.ClaimSeven
namespace Go.Proofs.YtmmpflifajjbjaaDoor
namespace Rows

/-- THE TIED CARD OF 'inlaylaw01.ImageValid'. -/
def imageValidCard : Claim7 := { stood := { row := imageValidRow, standIns := [], harness := (true, "7ab914ec5cc45e399c5e5c7d0e752cc0d388ce194a586840b9eb2afa54f444ba"), looks := true }, kinds := [], alts := [], laidByText := true, laidKinds := [.data, .data, .data, .data, .sentinel, .sentinel, .pinned], laidTests := true, laidLooks := .later }
def ImageValidCardSaid : Prop := Claim7.holds Tryd.pinned (.plain (OpenSpec.ofChange imageValidSpec)) imageValidCard

/-- THE TIED CARD OF 'inlaylaw01.ImageTexts'. -/
def imageTextsCard : Claim7 := { stood := { row := imageTextsRow, standIns := [], harness := (true, "7ab914ec5cc45e399c5e5c7d0e752cc0d388ce194a586840b9eb2afa54f444ba"), looks := true }, kinds := [], alts := [], laidByText := true, laidKinds := [.data, .data, .data, .data, .sentinel, .sentinel, .pinned], laidTests := true, laidLooks := .later }
def ImageTextsCardSaid : Prop := Claim7.holds Tryd.pinned (.plain (OpenSpec.ofChange imageTextsSpec)) imageTextsCard

/-- THE TIED CARD OF 'inlaylaw01.ImageFinds'. -/
def imageFindsCard : Claim7 := { stood := { row := imageFindsRow, standIns := [], harness := (true, "7ab914ec5cc45e399c5e5c7d0e752cc0d388ce194a586840b9eb2afa54f444ba"), looks := true }, kinds := [], alts := [], laidByText := true, laidKinds := [.data, .data, .data, .data, .sentinel, .sentinel, .pinned], laidTests := true, laidLooks := .later }
def ImageFindsCardSaid : Prop := Claim7.holds Tryd.pinned (.plain (OpenSpec.ofChange imageFindsSpec)) imageFindsCard

/-- THE TIED CARD OF 'inlaylaw01.ImageChanges'. -/
def imageChangesCard : Claim7 := { stood := { row := imageChangesRow, standIns := [], harness := (true, "7ab914ec5cc45e399c5e5c7d0e752cc0d388ce194a586840b9eb2afa54f444ba"), looks := true }, kinds := [], alts := [], laidByText := true, laidKinds := [.data, .data, .data, .data, .sentinel, .sentinel, .pinned], laidTests := true, laidLooks := .later }
def ImageChangesCardSaid : Prop := Claim7.holds Tryd.pinned (.plain (OpenSpec.ofChange imageChangesSpec)) imageChangesCard

/-- THE TIED CARD OF 'inlaylaw01.ImageSpreads'. -/
def imageSpreadsCard : Claim7 := { stood := { row := imageSpreadsRow, standIns := [], harness := (true, "7ab914ec5cc45e399c5e5c7d0e752cc0d388ce194a586840b9eb2afa54f444ba"), looks := true }, kinds := [], alts := [], laidByText := true, laidKinds := [.data, .data, .data, .data, .sentinel, .sentinel, .pinned], laidTests := true, laidLooks := .later }
def ImageSpreadsCardSaid : Prop := Claim7.holds Tryd.pinned (.plain (OpenSpec.ofChange imageSpreadsSpec)) imageSpreadsCard

/-- THE TIED CARD OF 'inlaylaw01.ImageHex'. -/
def imageHexCard : Claim7 := { stood := { row := imageHexRow, standIns := [], harness := (true, "7ab914ec5cc45e399c5e5c7d0e752cc0d388ce194a586840b9eb2afa54f444ba"), looks := true }, kinds := [], alts := [], laidByText := true, laidKinds := [.data, .data, .data, .data, .sentinel, .sentinel, .pinned], laidTests := true, laidLooks := .later }
def ImageHexCardSaid : Prop := Claim7.holds Tryd.pinned (.plain (OpenSpec.ofChange imageHexSpec)) imageHexCard

/-- THE SECOND FORM's CARD OF 'inlaylaw01.ImageValid'. -/
def imageValidUptoCard : Claim7 := { stood := { row := imageValidUptoRow, standIns := [], harness := (true, "7ab914ec5cc45e399c5e5c7d0e752cc0d388ce194a586840b9eb2afa54f444ba"), looks := true }, kinds := [], alts := [], laidByText := true, laidKinds := [.data, .data, .data, .data, .sentinel, .sentinel, .pinned], laidTests := true, laidLooks := .later }
def ImageValidUptoCardSaid : Prop := Claim7.holds Tryd.pinned (.plain (OpenSpec.upto imageValidSpec)) imageValidUptoCard

/-- THE SECOND FORM's CARD OF 'inlaylaw01.ImageTexts'. -/
def imageTextsUptoCard : Claim7 := { stood := { row := imageTextsUptoRow, standIns := [], harness := (true, "7ab914ec5cc45e399c5e5c7d0e752cc0d388ce194a586840b9eb2afa54f444ba"), looks := true }, kinds := [], alts := [], laidByText := true, laidKinds := [.data, .data, .data, .data, .sentinel, .sentinel, .pinned], laidTests := true, laidLooks := .later }
def ImageTextsUptoCardSaid : Prop := Claim7.holds Tryd.pinned (.plain (OpenSpec.upto imageTextsSpec)) imageTextsUptoCard

/-- THE SECOND FORM's CARD OF 'inlaylaw01.ImageFinds'. -/
def imageFindsUptoCard : Claim7 := { stood := { row := imageFindsUptoRow, standIns := [], harness := (true, "7ab914ec5cc45e399c5e5c7d0e752cc0d388ce194a586840b9eb2afa54f444ba"), looks := true }, kinds := [], alts := [], laidByText := true, laidKinds := [.data, .data, .data, .data, .sentinel, .sentinel, .pinned], laidTests := true, laidLooks := .later }
def ImageFindsUptoCardSaid : Prop := Claim7.holds Tryd.pinned (.plain (OpenSpec.upto imageFindsSpec)) imageFindsUptoCard

/-- THE SECOND FORM's CARD OF 'inlaylaw01.ImageChanges'. -/
def imageChangesUptoCard : Claim7 := { stood := { row := imageChangesUptoRow, standIns := [], harness := (true, "7ab914ec5cc45e399c5e5c7d0e752cc0d388ce194a586840b9eb2afa54f444ba"), looks := true }, kinds := [], alts := [], laidByText := true, laidKinds := [.data, .data, .data, .data, .sentinel, .sentinel, .pinned], laidTests := true, laidLooks := .later }
def ImageChangesUptoCardSaid : Prop := Claim7.holds Tryd.pinned (.plain (OpenSpec.upto imageChangesSpec)) imageChangesUptoCard

/-- THE SECOND FORM's CARD OF 'inlaylaw01.ImageSpreads'. -/
def imageSpreadsUptoCard : Claim7 := { stood := { row := imageSpreadsUptoRow, standIns := [], harness := (true, "7ab914ec5cc45e399c5e5c7d0e752cc0d388ce194a586840b9eb2afa54f444ba"), looks := true }, kinds := [], alts := [], laidByText := true, laidKinds := [.data, .data, .data, .data, .sentinel, .sentinel, .pinned], laidTests := true, laidLooks := .later }
def ImageSpreadsUptoCardSaid : Prop := Claim7.holds Tryd.pinned (.plain (OpenSpec.upto imageSpreadsSpec)) imageSpreadsUptoCard

/-- THE SECOND FORM's CARD OF 'inlaylaw01.ImageHex'. -/
def imageHexUptoCard : Claim7 := { stood := { row := imageHexUptoRow, standIns := [], harness := (true, "7ab914ec5cc45e399c5e5c7d0e752cc0d388ce194a586840b9eb2afa54f444ba"), looks := true }, kinds := [], alts := [], laidByText := true, laidKinds := [.data, .data, .data, .data, .sentinel, .sentinel, .pinned], laidTests := true, laidLooks := .later }
def ImageHexUptoCardSaid : Prop := Claim7.holds Tryd.pinned (.plain (OpenSpec.upto imageHexSpec)) imageHexUptoCard
end Rows
end Go.Proofs.YtmmpflifajjbjaaDoor
