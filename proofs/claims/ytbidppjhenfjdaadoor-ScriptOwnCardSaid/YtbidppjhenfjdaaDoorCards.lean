/-
  DERIVED. GIVEN WITH THE SEED: THE CARDS: each row of YtbidppjhenfjdaaDoorRows.lean that lists a variable, with what it lists TIED to the program's text (the seventh form; the later family's looks); each row that meets fmt, with fmt's text TOLD by the authors' own Lean function (tested against real Go, not proved from fmt's source: count such statements apart). THE CARD IS WHAT COUNTS. Prove the row's statement (the work); the ties are given (YtbidppjhenfjdaaDoorTie.lean); close each card by the builder's one call (the guide's Derived/Test/ToyasCard.lean, 'card_holds'). Laid BY PROGRAM, IN A SANDBOX (cutbox-door.mjs). By AI agents, Wed Nov 11 2026. No macro, syntax, notation, axiom, sorry.
-/
import Derived.Test.YtbidppjhenfjdaaDoorRows
import GoSem.ClaimSeven
namespace Go.Proofs.YtbidppjhenfjdaaDoor
namespace Rows

/-- THE TIED CARD OF 'hearsaylaw22.ScriptBack'. -/
def scriptBackCard : Claim7 := { stood := { row := scriptBackRow, standIns := [], harness := (true, "bde82d3fbe3c3016abd8cf9df48825a09ca9d1ddf30daed5d0198bf32c0db4f6"), looks := true }, kinds := [], alts := [], laidByText := true, laidKinds := [.data, .data, .data, .sentinel, .sentinel], laidTests := true, laidLooks := .later }
def ScriptBackCardSaid : Prop := Claim7.holds Tryd.pinned (.plain (OpenSpec.ofChange scriptBackSpec)) scriptBackCard

/-- THE TIED CARD OF 'hearsaylaw22.ScriptLoose'. -/
def scriptLooseCard : Claim7 := { stood := { row := scriptLooseRow, standIns := [], harness := (true, "bde82d3fbe3c3016abd8cf9df48825a09ca9d1ddf30daed5d0198bf32c0db4f6"), looks := true }, kinds := [], alts := [], laidByText := true, laidKinds := [.data, .data, .data, .sentinel, .sentinel], laidTests := true, laidLooks := .later }
def ScriptLooseCardSaid : Prop := Claim7.holds Tryd.pinned (.plain (OpenSpec.ofChange scriptLooseSpec)) scriptLooseCard

/-- THE TIED CARD OF 'hearsaylaw22.ScriptFirst'. -/
def scriptFirstCard : Claim7 := { stood := { row := scriptFirstRow, standIns := [], harness := (true, "bde82d3fbe3c3016abd8cf9df48825a09ca9d1ddf30daed5d0198bf32c0db4f6"), looks := true }, kinds := [], alts := [], laidByText := true, laidKinds := [.data, .data, .data, .sentinel, .sentinel], laidTests := true, laidLooks := .later }
def ScriptFirstCardSaid : Prop := Claim7.holds Tryd.pinned (.plain (OpenSpec.ofChange scriptFirstSpec)) scriptFirstCard

/-- THE TIED CARD OF 'hearsaylaw22.ScriptOwn'. -/
def scriptOwnCard : Claim7 := { stood := { row := scriptOwnRow, standIns := [], harness := (true, "bde82d3fbe3c3016abd8cf9df48825a09ca9d1ddf30daed5d0198bf32c0db4f6"), looks := true }, kinds := [], alts := [], laidByText := true, laidKinds := [.data, .data, .data, .sentinel, .sentinel], laidTests := true, laidLooks := .later }
def ScriptOwnCardSaid : Prop := Claim7.holds Tryd.pinned (.plain (OpenSpec.ofChange scriptOwnSpec)) scriptOwnCard

/-- THE SECOND FORM's CARD OF 'hearsaylaw22.ScriptBack'. -/
def scriptBackUptoCard : Claim7 := { stood := { row := scriptBackUptoRow, standIns := [], harness := (true, "bde82d3fbe3c3016abd8cf9df48825a09ca9d1ddf30daed5d0198bf32c0db4f6"), looks := true }, kinds := [], alts := [], laidByText := true, laidKinds := [.data, .data, .data, .sentinel, .sentinel], laidTests := true, laidLooks := .later }
def ScriptBackUptoCardSaid : Prop := Claim7.holds Tryd.pinned (.plain (OpenSpec.upto scriptBackSpec)) scriptBackUptoCard

/-- THE SECOND FORM's CARD OF 'hearsaylaw22.ScriptLoose'. -/
def scriptLooseUptoCard : Claim7 := { stood := { row := scriptLooseUptoRow, standIns := [], harness := (true, "bde82d3fbe3c3016abd8cf9df48825a09ca9d1ddf30daed5d0198bf32c0db4f6"), looks := true }, kinds := [], alts := [], laidByText := true, laidKinds := [.data, .data, .data, .sentinel, .sentinel], laidTests := true, laidLooks := .later }
def ScriptLooseUptoCardSaid : Prop := Claim7.holds Tryd.pinned (.plain (OpenSpec.upto scriptLooseSpec)) scriptLooseUptoCard

/-- THE SECOND FORM's CARD OF 'hearsaylaw22.ScriptFirst'. -/
def scriptFirstUptoCard : Claim7 := { stood := { row := scriptFirstUptoRow, standIns := [], harness := (true, "bde82d3fbe3c3016abd8cf9df48825a09ca9d1ddf30daed5d0198bf32c0db4f6"), looks := true }, kinds := [], alts := [], laidByText := true, laidKinds := [.data, .data, .data, .sentinel, .sentinel], laidTests := true, laidLooks := .later }
def ScriptFirstUptoCardSaid : Prop := Claim7.holds Tryd.pinned (.plain (OpenSpec.upto scriptFirstSpec)) scriptFirstUptoCard

/-- THE SECOND FORM's CARD OF 'hearsaylaw22.ScriptOwn'. -/
def scriptOwnUptoCard : Claim7 := { stood := { row := scriptOwnUptoRow, standIns := [], harness := (true, "bde82d3fbe3c3016abd8cf9df48825a09ca9d1ddf30daed5d0198bf32c0db4f6"), looks := true }, kinds := [], alts := [], laidByText := true, laidKinds := [.data, .data, .data, .sentinel, .sentinel], laidTests := true, laidLooks := .later }
def ScriptOwnUptoCardSaid : Prop := Claim7.holds Tryd.pinned (.plain (OpenSpec.upto scriptOwnSpec)) scriptOwnUptoCard
end Rows
end Go.Proofs.YtbidppjhenfjdaaDoor
