/-
  DERIVED. GIVEN WITH THE SEED: THE CARDS: each row of YtbmapellhcdipaaDoorRows.lean that lists a variable, with what it lists TIED to the program's text (the seventh form; the later family's looks); each row that meets fmt, with fmt's text TOLD by the authors' own Lean function (tested against real Go, not proved from fmt's source: count such statements apart). THE CARD IS WHAT COUNTS. Prove the row's statement (the work); the ties are given (YtbmapellhcdipaaDoorTie.lean); close each card by the builder's one call (the guide's Derived/Test/ToyasCard.lean, 'card_holds'). Laid BY PROGRAM, IN A SANDBOX (cutbox-door.mjs). By AI agents, Wed Nov 11 2026. No macro, syntax, notation, axiom, sorry.
-/
import Derived.Test.YtbmapellhcdipaaDoorRows
import GoSem.ClaimSeven
namespace Go.Proofs.YtbmapellhcdipaaDoor
namespace Rows

/-- THE TIED CARD OF 'hearsaylaw4.QuoteQuotes'. -/
def quoteQuotesCard : Claim7 := { stood := { row := quoteQuotesRow, standIns := [], harness := (true, "4236e677783653250adb0f0c23cb60f28fb2cdcca44dfbf62be33c34dd0603ce"), looks := true }, kinds := [], alts := [], laidByText := true, laidKinds := [.data, .data, .data], laidTests := true, laidLooks := .later }
def QuoteQuotesCardSaid : Prop := Claim7.holds Tryd.pinned (.plain (OpenSpec.ofChange quoteQuotesSpec)) quoteQuotesCard

/-- THE TIED CARD OF 'hearsaylaw4.QuoteUnquotes'. -/
def quoteUnquotesCard : Claim7 := { stood := { row := quoteUnquotesRow, standIns := [], harness := (true, "4236e677783653250adb0f0c23cb60f28fb2cdcca44dfbf62be33c34dd0603ce"), looks := true }, kinds := [], alts := [], laidByText := true, laidKinds := [.data, .data, .data], laidTests := true, laidLooks := .later }
def QuoteUnquotesCardSaid : Prop := Claim7.holds Tryd.pinned (.plain (OpenSpec.ofChange quoteUnquotesSpec)) quoteUnquotesCard

/-- THE TIED CARD OF 'hearsaylaw4.QuoteBack'. -/
def quoteBackCard : Claim7 := { stood := { row := quoteBackRow, standIns := [], harness := (true, "4236e677783653250adb0f0c23cb60f28fb2cdcca44dfbf62be33c34dd0603ce"), looks := true }, kinds := [], alts := [], laidByText := true, laidKinds := [.data, .data, .data], laidTests := true, laidLooks := .later }
def QuoteBackCardSaid : Prop := Claim7.holds Tryd.pinned (.plain (OpenSpec.ofChange quoteBackSpec)) quoteBackCard

/-- THE TIED CARD OF 'hearsaylaw4.QuoteScans'. -/
def quoteScansCard : Claim7 := { stood := { row := quoteScansRow, standIns := [], harness := (true, "4236e677783653250adb0f0c23cb60f28fb2cdcca44dfbf62be33c34dd0603ce"), looks := true }, kinds := [], alts := [], laidByText := true, laidKinds := [.data, .data, .data, .sentinel, .sentinel], laidTests := true, laidLooks := .later }
def QuoteScansCardSaid : Prop := Claim7.holds Tryd.pinned (.plain (OpenSpec.ofChange quoteScansSpec)) quoteScansCard

/-- THE TIED CARD OF 'hearsaylaw4.QuoteWords'. -/
def quoteWordsCard : Claim7 := { stood := { row := quoteWordsRow, standIns := [], harness := (true, "4236e677783653250adb0f0c23cb60f28fb2cdcca44dfbf62be33c34dd0603ce"), looks := true }, kinds := [], alts := [], laidByText := true, laidKinds := [.data, .data, .data, .sentinel, .sentinel], laidTests := true, laidLooks := .later }
def QuoteWordsCardSaid : Prop := Claim7.holds Tryd.pinned (.plain (OpenSpec.ofChange quoteWordsSpec)) quoteWordsCard

/-- THE TIED CARD OF 'hearsaylaw4.QuoteRises'. -/
def quoteRisesCard : Claim7 := { stood := { row := quoteRisesRow, standIns := [], harness := (true, "4236e677783653250adb0f0c23cb60f28fb2cdcca44dfbf62be33c34dd0603ce"), looks := true }, kinds := [], alts := [], laidByText := true, laidKinds := [.data, .data, .data, .sentinel, .sentinel], laidTests := true, laidLooks := .later }
def QuoteRisesCardSaid : Prop := Claim7.holds Tryd.pinned (.plain (OpenSpec.ofChange quoteRisesSpec)) quoteRisesCard

/-- THE SECOND FORM's CARD OF 'hearsaylaw4.QuoteQuotes'. -/
def quoteQuotesUptoCard : Claim7 := { stood := { row := quoteQuotesUptoRow, standIns := [], harness := (true, "4236e677783653250adb0f0c23cb60f28fb2cdcca44dfbf62be33c34dd0603ce"), looks := true }, kinds := [], alts := [], laidByText := true, laidKinds := [.data, .data, .data], laidTests := true, laidLooks := .later }
def QuoteQuotesUptoCardSaid : Prop := Claim7.holds Tryd.pinned (.plain (OpenSpec.upto quoteQuotesSpec)) quoteQuotesUptoCard

/-- THE SECOND FORM's CARD OF 'hearsaylaw4.QuoteUnquotes'. -/
def quoteUnquotesUptoCard : Claim7 := { stood := { row := quoteUnquotesUptoRow, standIns := [], harness := (true, "4236e677783653250adb0f0c23cb60f28fb2cdcca44dfbf62be33c34dd0603ce"), looks := true }, kinds := [], alts := [], laidByText := true, laidKinds := [.data, .data, .data], laidTests := true, laidLooks := .later }
def QuoteUnquotesUptoCardSaid : Prop := Claim7.holds Tryd.pinned (.plain (OpenSpec.upto quoteUnquotesSpec)) quoteUnquotesUptoCard

/-- THE SECOND FORM's CARD OF 'hearsaylaw4.QuoteBack'. -/
def quoteBackUptoCard : Claim7 := { stood := { row := quoteBackUptoRow, standIns := [], harness := (true, "4236e677783653250adb0f0c23cb60f28fb2cdcca44dfbf62be33c34dd0603ce"), looks := true }, kinds := [], alts := [], laidByText := true, laidKinds := [.data, .data, .data], laidTests := true, laidLooks := .later }
def QuoteBackUptoCardSaid : Prop := Claim7.holds Tryd.pinned (.plain (OpenSpec.upto quoteBackSpec)) quoteBackUptoCard

/-- THE SECOND FORM's CARD OF 'hearsaylaw4.QuoteScans'. -/
def quoteScansUptoCard : Claim7 := { stood := { row := quoteScansUptoRow, standIns := [], harness := (true, "4236e677783653250adb0f0c23cb60f28fb2cdcca44dfbf62be33c34dd0603ce"), looks := true }, kinds := [], alts := [], laidByText := true, laidKinds := [.data, .data, .data, .sentinel, .sentinel], laidTests := true, laidLooks := .later }
def QuoteScansUptoCardSaid : Prop := Claim7.holds Tryd.pinned (.plain (OpenSpec.upto quoteScansSpec)) quoteScansUptoCard

/-- THE SECOND FORM's CARD OF 'hearsaylaw4.QuoteWords'. -/
def quoteWordsUptoCard : Claim7 := { stood := { row := quoteWordsUptoRow, standIns := [], harness := (true, "4236e677783653250adb0f0c23cb60f28fb2cdcca44dfbf62be33c34dd0603ce"), looks := true }, kinds := [], alts := [], laidByText := true, laidKinds := [.data, .data, .data, .sentinel, .sentinel], laidTests := true, laidLooks := .later }
def QuoteWordsUptoCardSaid : Prop := Claim7.holds Tryd.pinned (.plain (OpenSpec.upto quoteWordsSpec)) quoteWordsUptoCard

/-- THE SECOND FORM's CARD OF 'hearsaylaw4.QuoteRises'. -/
def quoteRisesUptoCard : Claim7 := { stood := { row := quoteRisesUptoRow, standIns := [], harness := (true, "4236e677783653250adb0f0c23cb60f28fb2cdcca44dfbf62be33c34dd0603ce"), looks := true }, kinds := [], alts := [], laidByText := true, laidKinds := [.data, .data, .data, .sentinel, .sentinel], laidTests := true, laidLooks := .later }
def QuoteRisesUptoCardSaid : Prop := Claim7.holds Tryd.pinned (.plain (OpenSpec.upto quoteRisesSpec)) quoteRisesUptoCard
end Rows
end Go.Proofs.YtbmapellhcdipaaDoor
