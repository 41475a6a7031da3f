/-
  DERIVED. GIVEN WITH THE SEED: THE CARDS: each row of YtfhgeanacecpjaaDoorRows.lean that lists a variable, with what it lists TIED to the program's text (the seventh form; the later family's looks); each row that meets fmt, with fmt's text TOLD by the authors' own Lean function (tested against real Go, not proved from fmt's source: count such statements apart). THE CARD IS WHAT COUNTS. Prove the row's statement (the work); the ties are given (YtfhgeanacecpjaaDoorTie.lean); close each card by the builder's one call (the guide's Derived/Test/ToyasCard.lean, 'card_holds'). Laid BY PROGRAM, IN A SANDBOX (cutbox-door.mjs). By AI agents, Wed Nov 11 2026. No macro, syntax, notation, axiom, sorry.
-/
import Derived.Test.YtfhgeanacecpjaaDoorRows
import GoSem.ClaimSeven
namespace Go.Proofs.YtfhgeanacecpjaaDoor
namespace Rows

/-- THE TIED CARD OF 'hearsaylaw16.RollBack'. -/
def rollBackCard : Claim7 := { stood := { row := rollBackRow, standIns := [], harness := (true, "0792f81e766b6f60fd808244aaf529fca964a4215568ae59b9fa2cc8f11a759d"), looks := false }, kinds := [], alts := [], laidByText := true, laidKinds := [.data], laidTests := true, laidLooks := .later }
def RollBackCardSaid : Prop := Claim7.holds Tryd.pinned (.plain (OpenSpec.ofChange rollBackSpec)) rollBackCard

/-- THE TIED CARD OF 'hearsaylaw16.RollOwn'. -/
def rollOwnCard : Claim7 := { stood := { row := rollOwnRow, standIns := [], harness := (true, "0792f81e766b6f60fd808244aaf529fca964a4215568ae59b9fa2cc8f11a759d"), looks := false }, kinds := [], alts := [], laidByText := true, laidKinds := [.data], laidTests := true, laidLooks := .later }
def RollOwnCardSaid : Prop := Claim7.holds Tryd.pinned (.plain (OpenSpec.ofChange rollOwnSpec)) rollOwnCard

/-- THE TIED CARD OF 'hearsaylaw16.RollPlays'. -/
def rollPlaysCard : Claim7 := { stood := { row := rollPlaysRow, standIns := [], harness := (true, "0792f81e766b6f60fd808244aaf529fca964a4215568ae59b9fa2cc8f11a759d"), looks := false }, kinds := [], alts := [], laidByText := true, laidKinds := [.data], laidTests := true, laidLooks := .later }
def RollPlaysCardSaid : Prop := Claim7.holds Tryd.pinned (.plain (OpenSpec.ofChange rollPlaysSpec)) rollPlaysCard

/-- THE TIED CARD OF 'hearsaylaw16.RollLoads'. -/
def rollLoadsCard : Claim7 := { stood := { row := rollLoadsRow, standIns := [], harness := (true, "0792f81e766b6f60fd808244aaf529fca964a4215568ae59b9fa2cc8f11a759d"), looks := false }, kinds := [], alts := [], laidByText := true, laidKinds := [.data], laidTests := true, laidLooks := .later }
def RollLoadsCardSaid : Prop := Claim7.holds Tryd.pinned (.plain (OpenSpec.ofChange rollLoadsSpec)) rollLoadsCard

/-- THE TIED CARD OF 'hearsaylaw16.RollTwo'. -/
def rollTwoCard : Claim7 := { stood := { row := rollTwoRow, standIns := [], harness := (true, "0792f81e766b6f60fd808244aaf529fca964a4215568ae59b9fa2cc8f11a759d"), looks := false }, kinds := [], alts := [], laidByText := true, laidKinds := [.data], laidTests := true, laidLooks := .later }
def RollTwoCardSaid : Prop := Claim7.holds Tryd.pinned (.plain (OpenSpec.ofChange rollTwoSpec)) rollTwoCard

/-- THE TIED CARD OF 'hearsaylaw16.RollNothing'. -/
def rollNothingCard : Claim7 := { stood := { row := rollNothingRow, standIns := [], harness := (true, "0792f81e766b6f60fd808244aaf529fca964a4215568ae59b9fa2cc8f11a759d"), looks := false }, kinds := [], alts := [], laidByText := true, laidKinds := [.data], laidTests := true, laidLooks := .later }
def RollNothingCardSaid : Prop := Claim7.holds Tryd.pinned (.plain (OpenSpec.ofChange rollNothingSpec)) rollNothingCard

/-- THE TIED CARD OF 'hearsaylaw16.RollOrder'. -/
def rollOrderCard : Claim7 := { stood := { row := rollOrderRow, standIns := [], harness := (true, "0792f81e766b6f60fd808244aaf529fca964a4215568ae59b9fa2cc8f11a759d"), looks := false }, kinds := [], alts := [], laidByText := true, laidKinds := [.data], laidTests := true, laidLooks := .later }
def RollOrderCardSaid : Prop := Claim7.holds Tryd.pinned (.plain (OpenSpec.ofChange rollOrderSpec)) rollOrderCard

/-- THE SECOND FORM's CARD OF 'hearsaylaw16.RollBack'. -/
def rollBackUptoCard : Claim7 := { stood := { row := rollBackUptoRow, standIns := [], harness := (true, "0792f81e766b6f60fd808244aaf529fca964a4215568ae59b9fa2cc8f11a759d"), looks := false }, kinds := [], alts := [], laidByText := true, laidKinds := [.data], laidTests := true, laidLooks := .later }
def RollBackUptoCardSaid : Prop := Claim7.holds Tryd.pinned (.plain (OpenSpec.upto rollBackSpec)) rollBackUptoCard

/-- THE SECOND FORM's CARD OF 'hearsaylaw16.RollOwn'. -/
def rollOwnUptoCard : Claim7 := { stood := { row := rollOwnUptoRow, standIns := [], harness := (true, "0792f81e766b6f60fd808244aaf529fca964a4215568ae59b9fa2cc8f11a759d"), looks := false }, kinds := [], alts := [], laidByText := true, laidKinds := [.data], laidTests := true, laidLooks := .later }
def RollOwnUptoCardSaid : Prop := Claim7.holds Tryd.pinned (.plain (OpenSpec.upto rollOwnSpec)) rollOwnUptoCard

/-- THE SECOND FORM's CARD OF 'hearsaylaw16.RollPlays'. -/
def rollPlaysUptoCard : Claim7 := { stood := { row := rollPlaysUptoRow, standIns := [], harness := (true, "0792f81e766b6f60fd808244aaf529fca964a4215568ae59b9fa2cc8f11a759d"), looks := false }, kinds := [], alts := [], laidByText := true, laidKinds := [.data], laidTests := true, laidLooks := .later }
def RollPlaysUptoCardSaid : Prop := Claim7.holds Tryd.pinned (.plain (OpenSpec.upto rollPlaysSpec)) rollPlaysUptoCard

/-- THE SECOND FORM's CARD OF 'hearsaylaw16.RollLoads'. -/
def rollLoadsUptoCard : Claim7 := { stood := { row := rollLoadsUptoRow, standIns := [], harness := (true, "0792f81e766b6f60fd808244aaf529fca964a4215568ae59b9fa2cc8f11a759d"), looks := false }, kinds := [], alts := [], laidByText := true, laidKinds := [.data], laidTests := true, laidLooks := .later }
def RollLoadsUptoCardSaid : Prop := Claim7.holds Tryd.pinned (.plain (OpenSpec.upto rollLoadsSpec)) rollLoadsUptoCard

/-- THE SECOND FORM's CARD OF 'hearsaylaw16.RollTwo'. -/
def rollTwoUptoCard : Claim7 := { stood := { row := rollTwoUptoRow, standIns := [], harness := (true, "0792f81e766b6f60fd808244aaf529fca964a4215568ae59b9fa2cc8f11a759d"), looks := false }, kinds := [], alts := [], laidByText := true, laidKinds := [.data], laidTests := true, laidLooks := .later }
def RollTwoUptoCardSaid : Prop := Claim7.holds Tryd.pinned (.plain (OpenSpec.upto rollTwoSpec)) rollTwoUptoCard

/-- THE SECOND FORM's CARD OF 'hearsaylaw16.RollNothing'. -/
def rollNothingUptoCard : Claim7 := { stood := { row := rollNothingUptoRow, standIns := [], harness := (true, "0792f81e766b6f60fd808244aaf529fca964a4215568ae59b9fa2cc8f11a759d"), looks := false }, kinds := [], alts := [], laidByText := true, laidKinds := [.data], laidTests := true, laidLooks := .later }
def RollNothingUptoCardSaid : Prop := Claim7.holds Tryd.pinned (.plain (OpenSpec.upto rollNothingSpec)) rollNothingUptoCard

/-- THE SECOND FORM's CARD OF 'hearsaylaw16.RollOrder'. -/
def rollOrderUptoCard : Claim7 := { stood := { row := rollOrderUptoRow, standIns := [], harness := (true, "0792f81e766b6f60fd808244aaf529fca964a4215568ae59b9fa2cc8f11a759d"), looks := false }, kinds := [], alts := [], laidByText := true, laidKinds := [.data], laidTests := true, laidLooks := .later }
def RollOrderUptoCardSaid : Prop := Claim7.holds Tryd.pinned (.plain (OpenSpec.upto rollOrderSpec)) rollOrderUptoCard
end Rows
end Go.Proofs.YtfhgeanacecpjaaDoor
