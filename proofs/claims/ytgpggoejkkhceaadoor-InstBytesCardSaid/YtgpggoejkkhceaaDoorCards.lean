/-
  DERIVED. GIVEN WITH THE SEED: THE CARDS: each row of YtgpggoejkkhceaaDoorRows.lean that lists a variable, with what it lists TIED to the program's text (the seventh form; the later family's looks); each row that meets fmt, with fmt's text TOLD by the authors' own Lean function (tested against real Go, not proved from fmt's source: count such statements apart). THE CARD IS WHAT COUNTS. Prove the row's statement (the work); the ties are given (YtgpggoejkkhceaaDoorTie.lean); close each card by the builder's one call (the guide's Derived/Test/ToyasCard.lean, 'card_holds'). Laid BY PROGRAM, IN A SANDBOX (cutbox-door.mjs). By AI agents, Wed Nov 11 2026. No macro, syntax, notation, axiom, sorry.
-/
import Derived.Test.YtgpggoejkkhceaaDoorRows
import GoSem.ClaimSeven
namespace Go.Proofs.YtgpggoejkkhceaaDoor
namespace Rows

/-- THE TIED CARD OF 'inlaylaw02.InstWords'. -/
def instWordsCard : Claim7 := { stood := { row := instWordsRow, standIns := [], harness := (true, "00967da0d007a14231301268216922850b91336f72e61b2b1f3d44130e32698f"), looks := false }, kinds := [], alts := [], laidByText := true, laidKinds := [.data, .data, .data], laidTests := true, laidLooks := .later }
def InstWordsCardSaid : Prop := Claim7.holds Tryd.pinned (.plain (OpenSpec.ofChange instWordsSpec)) instWordsCard

/-- THE TIED CARD OF 'inlaylaw02.InstInstructions'. -/
def instInstructionsCard : Claim7 := { stood := { row := instInstructionsRow, standIns := [], harness := (true, "00967da0d007a14231301268216922850b91336f72e61b2b1f3d44130e32698f"), looks := false }, kinds := [], alts := [], laidByText := true, laidKinds := [.data, .data, .data], laidTests := true, laidLooks := .later }
def InstInstructionsCardSaid : Prop := Claim7.holds Tryd.pinned (.plain (OpenSpec.ofChange instInstructionsSpec)) instInstructionsCard

/-- THE TIED CARD OF 'inlaylaw02.InstMoves'. -/
def instMovesCard : Claim7 := { stood := { row := instMovesRow, standIns := [], harness := (true, "00967da0d007a14231301268216922850b91336f72e61b2b1f3d44130e32698f"), looks := false }, kinds := [], alts := [], laidByText := true, laidKinds := [.data, .data, .data], laidTests := true, laidLooks := .later }
def InstMovesCardSaid : Prop := Claim7.holds Tryd.pinned (.plain (OpenSpec.ofChange instMovesSpec)) instMovesCard

/-- THE TIED CARD OF 'inlaylaw02.InstTargets'. -/
def instTargetsCard : Claim7 := { stood := { row := instTargetsRow, standIns := [], harness := (true, "00967da0d007a14231301268216922850b91336f72e61b2b1f3d44130e32698f"), looks := false }, kinds := [], alts := [], laidByText := true, laidKinds := [.data, .data, .data], laidTests := true, laidLooks := .later }
def InstTargetsCardSaid : Prop := Claim7.holds Tryd.pinned (.plain (OpenSpec.ofChange instTargetsSpec)) instTargetsCard

/-- THE TIED CARD OF 'inlaylaw02.InstRefuses'. -/
def instRefusesCard : Claim7 := { stood := { row := instRefusesRow, standIns := [], harness := (true, "00967da0d007a14231301268216922850b91336f72e61b2b1f3d44130e32698f"), looks := false }, kinds := [], alts := [], laidByText := true, laidKinds := [.data, .data, .data], laidTests := true, laidLooks := .later }
def InstRefusesCardSaid : Prop := Claim7.holds Tryd.pinned (.plain (OpenSpec.ofChange instRefusesSpec)) instRefusesCard

/-- THE TIED CARD OF 'inlaylaw02.InstBytes'. -/
def instBytesCard : Claim7 := { stood := { row := instBytesRow, standIns := [], harness := (true, "00967da0d007a14231301268216922850b91336f72e61b2b1f3d44130e32698f"), looks := false }, kinds := [], alts := [], laidByText := true, laidKinds := [.data, .data, .data], laidTests := true, laidLooks := .later }
def InstBytesCardSaid : Prop := Claim7.holds Tryd.pinned (.plain (OpenSpec.ofChange instBytesSpec)) instBytesCard

/-- THE TIED CARD OF 'inlaylaw02.InstTexts'. -/
def instTextsCard : Claim7 := { stood := { row := instTextsRow, standIns := [], harness := (true, "00967da0d007a14231301268216922850b91336f72e61b2b1f3d44130e32698f"), looks := false }, kinds := [], alts := [], laidByText := true, laidKinds := [.data, .data, .data], laidTests := true, laidLooks := .later }
def InstTextsCardSaid : Prop := Claim7.holds Tryd.pinned (.plain (OpenSpec.ofChange instTextsSpec)) instTextsCard

/-- THE SECOND FORM's CARD OF 'inlaylaw02.InstWords'. -/
def instWordsUptoCard : Claim7 := { stood := { row := instWordsUptoRow, standIns := [], harness := (true, "00967da0d007a14231301268216922850b91336f72e61b2b1f3d44130e32698f"), looks := false }, kinds := [], alts := [], laidByText := true, laidKinds := [.data, .data, .data], laidTests := true, laidLooks := .later }
def InstWordsUptoCardSaid : Prop := Claim7.holds Tryd.pinned (.plain (OpenSpec.upto instWordsSpec)) instWordsUptoCard

/-- THE SECOND FORM's CARD OF 'inlaylaw02.InstInstructions'. -/
def instInstructionsUptoCard : Claim7 := { stood := { row := instInstructionsUptoRow, standIns := [], harness := (true, "00967da0d007a14231301268216922850b91336f72e61b2b1f3d44130e32698f"), looks := false }, kinds := [], alts := [], laidByText := true, laidKinds := [.data, .data, .data], laidTests := true, laidLooks := .later }
def InstInstructionsUptoCardSaid : Prop := Claim7.holds Tryd.pinned (.plain (OpenSpec.upto instInstructionsSpec)) instInstructionsUptoCard

/-- THE SECOND FORM's CARD OF 'inlaylaw02.InstMoves'. -/
def instMovesUptoCard : Claim7 := { stood := { row := instMovesUptoRow, standIns := [], harness := (true, "00967da0d007a14231301268216922850b91336f72e61b2b1f3d44130e32698f"), looks := false }, kinds := [], alts := [], laidByText := true, laidKinds := [.data, .data, .data], laidTests := true, laidLooks := .later }
def InstMovesUptoCardSaid : Prop := Claim7.holds Tryd.pinned (.plain (OpenSpec.upto instMovesSpec)) instMovesUptoCard

/-- THE SECOND FORM's CARD OF 'inlaylaw02.InstTargets'. -/
def instTargetsUptoCard : Claim7 := { stood := { row := instTargetsUptoRow, standIns := [], harness := (true, "00967da0d007a14231301268216922850b91336f72e61b2b1f3d44130e32698f"), looks := false }, kinds := [], alts := [], laidByText := true, laidKinds := [.data, .data, .data], laidTests := true, laidLooks := .later }
def InstTargetsUptoCardSaid : Prop := Claim7.holds Tryd.pinned (.plain (OpenSpec.upto instTargetsSpec)) instTargetsUptoCard

/-- THE SECOND FORM's CARD OF 'inlaylaw02.InstRefuses'. -/
def instRefusesUptoCard : Claim7 := { stood := { row := instRefusesUptoRow, standIns := [], harness := (true, "00967da0d007a14231301268216922850b91336f72e61b2b1f3d44130e32698f"), looks := false }, kinds := [], alts := [], laidByText := true, laidKinds := [.data, .data, .data], laidTests := true, laidLooks := .later }
def InstRefusesUptoCardSaid : Prop := Claim7.holds Tryd.pinned (.plain (OpenSpec.upto instRefusesSpec)) instRefusesUptoCard

/-- THE SECOND FORM's CARD OF 'inlaylaw02.InstBytes'. -/
def instBytesUptoCard : Claim7 := { stood := { row := instBytesUptoRow, standIns := [], harness := (true, "00967da0d007a14231301268216922850b91336f72e61b2b1f3d44130e32698f"), looks := false }, kinds := [], alts := [], laidByText := true, laidKinds := [.data, .data, .data], laidTests := true, laidLooks := .later }
def InstBytesUptoCardSaid : Prop := Claim7.holds Tryd.pinned (.plain (OpenSpec.upto instBytesSpec)) instBytesUptoCard

/-- THE SECOND FORM's CARD OF 'inlaylaw02.InstTexts'. -/
def instTextsUptoCard : Claim7 := { stood := { row := instTextsUptoRow, standIns := [], harness := (true, "00967da0d007a14231301268216922850b91336f72e61b2b1f3d44130e32698f"), looks := false }, kinds := [], alts := [], laidByText := true, laidKinds := [.data, .data, .data], laidTests := true, laidLooks := .later }
def InstTextsUptoCardSaid : Prop := Claim7.holds Tryd.pinned (.plain (OpenSpec.upto instTextsSpec)) instTextsUptoCard
end Rows
end Go.Proofs.YtgpggoejkkhceaaDoor
