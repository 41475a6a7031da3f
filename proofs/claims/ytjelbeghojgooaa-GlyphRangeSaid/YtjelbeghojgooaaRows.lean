/-
  No cell of these rows narrows 'for every input' (looked for: loops, veiled, ifaces, maps, wideKeys, modest, calm, conditions, laid).
  DERIVED. THE GIVEN ROWS OF THIS SEAT. 9 by the template 'for every input the law returns true; each argument reads behind the call as it read before'; 0 by the template 'total and deterministic' (their statements: YtjelbeghojgooaaTotals.lean).
  GIVEN WITH THE SEED: the statements are not yours to turn. If you find one false, say at which input.
  Laid BY PROGRAM, IN A SANDBOX (cutbox-rows.mjs): the forced cells as the released guide's own fill.sh prints them over the translation eaae6c1bedf46b7d… (all of the seat's roots in one cut). By AI agents, Wed Nov 11 2026. No macro, syntax, notation, axiom, sorry.
-/
import Derived.Test.YtjelbeghojgooaaChecked
import GoSem.Claim
import GoSem.ClaimJoined
import GoSem.ClaimMapViews
import Derived.JoinedTies
import Derived.KernelRfl
namespace Go.Proofs.Ytjelbeghojgooaa
/- THE CELL 'sum', in the pinned program and in every row, IS THE sha256 OF THE DUMP (.gsa) THAT YtjelbeghojgooaaProg.lean LOADS. Nothing in Lean hashes anything: it is a label: what it is worth is what the hold of that sum in a sandbox is worth. -/
noncomputable def Try.pinned : Pinned := { name := "ytjelbeghojgooaa", sum := "eaae6c1bedf46b7d7648db3c9c079701c01c74de83bffaf313243147dd03743a", checked := Try.checked }
namespace Rows
def none {H : Type} : Left H := { results := [], args := [] }

/-- 'hearsaylaw1.GlyphDecodes': WHATEVER THE INPUT: true; the input reads as it did. -/
def glyphDecodesSpec : ChangeSpec := { name := "glyphDecodes", fn := fun _ => fun
  | [d1, d2] => { results := [.lit (.bool true)], args := [d1, d2] }
  | _ => none }
def glyphDecodesRow : OpenClaim := { program := "ytjelbeghojgooaa", sum := "eaae6c1bedf46b7d7648db3c9c079701c01c74de83bffaf313243147dd03743a", func := "hearsay/hearsaylaw1.GlyphDecodes", spec := "glyphDecodes", inPlace := ["internal/abi.NoEscape"], unfollowed := true, recurses := true, apart := false }
def GlyphDecodesSaid : Prop := glyphDecodesRow.holds Try.pinned (OpenSpec.ofChange glyphDecodesSpec)

/-- ITS FALSE NEIGHBOUR: 'it returns false'. Refute it at one input. -/
def glyphDecodesWrong : ChangeSpec := { name := "glyphDecodes", fn := fun _ => fun
  | [d1, d2] => { results := [.lit (.bool false)], args := [d1, d2] }
  | _ => none }
def GlyphDecodesWrongFalsely : Prop := glyphDecodesRow.holds Try.pinned (OpenSpec.ofChange glyphDecodesWrong)

/-- 'hearsaylaw1.GlyphCuts': WHATEVER THE INPUT: true; the input reads as it did. -/
def glyphCutsSpec : ChangeSpec := { name := "glyphCuts", fn := fun _ => fun
  | [d1, d2] => { results := [.lit (.bool true)], args := [d1, d2] }
  | _ => none }
def glyphCutsRow : OpenClaim := { program := "ytjelbeghojgooaa", sum := "eaae6c1bedf46b7d7648db3c9c079701c01c74de83bffaf313243147dd03743a", func := "hearsay/hearsaylaw1.GlyphCuts", spec := "glyphCuts", inPlace := ["internal/abi.NoEscape"], unfollowed := true, recurses := true, apart := false }
def GlyphCutsSaid : Prop := glyphCutsRow.holds Try.pinned (OpenSpec.ofChange glyphCutsSpec)

/-- ITS FALSE NEIGHBOUR: 'it returns false'. Refute it at one input. -/
def glyphCutsWrong : ChangeSpec := { name := "glyphCuts", fn := fun _ => fun
  | [d1, d2] => { results := [.lit (.bool false)], args := [d1, d2] }
  | _ => none }
def GlyphCutsWrongFalsely : Prop := glyphCutsRow.holds Try.pinned (OpenSpec.ofChange glyphCutsWrong)

/-- 'hearsaylaw1.GlyphTexts': WHATEVER THE INPUT: true; the input reads as it did. -/
def glyphTextsSpec : ChangeSpec := { name := "glyphTexts", fn := fun _ => fun
  | [d] => { results := [.lit (.bool true)], args := [d] }
  | _ => none }
def glyphTextsRow : OpenClaim := { program := "ytjelbeghojgooaa", sum := "eaae6c1bedf46b7d7648db3c9c079701c01c74de83bffaf313243147dd03743a", func := "hearsay/hearsaylaw1.GlyphTexts", spec := "glyphTexts", inPlace := ["internal/abi.NoEscape"], unfollowed := true, recurses := true, apart := false }
def GlyphTextsSaid : Prop := glyphTextsRow.holds Try.pinned (OpenSpec.ofChange glyphTextsSpec)

/-- ITS FALSE NEIGHBOUR: 'it returns false'. Refute it at one input. -/
def glyphTextsWrong : ChangeSpec := { name := "glyphTexts", fn := fun _ => fun
  | [d] => { results := [.lit (.bool false)], args := [d] }
  | _ => none }
def GlyphTextsWrongFalsely : Prop := glyphTextsRow.holds Try.pinned (OpenSpec.ofChange glyphTextsWrong)

/-- 'hearsaylaw1.GlyphMeets': WHATEVER THE INPUT: true; the input reads as it did. -/
def glyphMeetsSpec : ChangeSpec := { name := "glyphMeets", fn := fun _ => fun
  | [d] => { results := [.lit (.bool true)], args := [d] }
  | _ => none }
def glyphMeetsRow : OpenClaim := { program := "ytjelbeghojgooaa", sum := "eaae6c1bedf46b7d7648db3c9c079701c01c74de83bffaf313243147dd03743a", func := "hearsay/hearsaylaw1.GlyphMeets", spec := "glyphMeets", inPlace := ["internal/abi.NoEscape"], unfollowed := true, recurses := true, apart := false }
def GlyphMeetsSaid : Prop := glyphMeetsRow.holds Try.pinned (OpenSpec.ofChange glyphMeetsSpec)

/-- ITS FALSE NEIGHBOUR: 'it returns false'. Refute it at one input. -/
def glyphMeetsWrong : ChangeSpec := { name := "glyphMeets", fn := fun _ => fun
  | [d] => { results := [.lit (.bool false)], args := [d] }
  | _ => none }
def GlyphMeetsWrongFalsely : Prop := glyphMeetsRow.holds Try.pinned (OpenSpec.ofChange glyphMeetsWrong)

/-- 'hearsaylaw1.GlyphRange': WHATEVER THE INPUT: true; the input reads as it did. -/
def glyphRangeSpec : ChangeSpec := { name := "glyphRange", fn := fun _ => fun
  | [d1, d2] => { results := [.lit (.bool true)], args := [d1, d2] }
  | _ => none }
def glyphRangeRow : OpenClaim := { program := "ytjelbeghojgooaa", sum := "eaae6c1bedf46b7d7648db3c9c079701c01c74de83bffaf313243147dd03743a", func := "hearsay/hearsaylaw1.GlyphRange", spec := "glyphRange", inPlace := ["internal/abi.NoEscape"], unfollowed := true, recurses := true, apart := false }
def GlyphRangeSaid : Prop := glyphRangeRow.holds Try.pinned (OpenSpec.ofChange glyphRangeSpec)

/-- ITS FALSE NEIGHBOUR: 'it returns false'. Refute it at one input. -/
def glyphRangeWrong : ChangeSpec := { name := "glyphRange", fn := fun _ => fun
  | [d1, d2] => { results := [.lit (.bool false)], args := [d1, d2] }
  | _ => none }
def GlyphRangeWrongFalsely : Prop := glyphRangeRow.holds Try.pinned (OpenSpec.ofChange glyphRangeWrong)

/-- 'hearsaylaw1.GlyphMends': WHATEVER THE INPUT: true; the input reads as it did. -/
def glyphMendsSpec : ChangeSpec := { name := "glyphMends", fn := fun _ => fun
  | [d1, d2] => { results := [.lit (.bool true)], args := [d1, d2] }
  | _ => none }
def glyphMendsRow : OpenClaim := { program := "ytjelbeghojgooaa", sum := "eaae6c1bedf46b7d7648db3c9c079701c01c74de83bffaf313243147dd03743a", func := "hearsay/hearsaylaw1.GlyphMends", spec := "glyphMends", inPlace := ["internal/abi.NoEscape"], unfollowed := true, recurses := true, apart := false }
def GlyphMendsSaid : Prop := glyphMendsRow.holds Try.pinned (OpenSpec.ofChange glyphMendsSpec)

/-- ITS FALSE NEIGHBOUR: 'it returns false'. Refute it at one input. -/
def glyphMendsWrong : ChangeSpec := { name := "glyphMends", fn := fun _ => fun
  | [d1, d2] => { results := [.lit (.bool false)], args := [d1, d2] }
  | _ => none }
def GlyphMendsWrongFalsely : Prop := glyphMendsRow.holds Try.pinned (OpenSpec.ofChange glyphMendsWrong)

/-- 'hearsaylaw1.GlyphJoins': WHATEVER THE INPUT: true; the input reads as it did. -/
def glyphJoinsSpec : ChangeSpec := { name := "glyphJoins", fn := fun _ => fun
  | [d1, d2, d3] => { results := [.lit (.bool true)], args := [d1, d2, d3] }
  | _ => none }
def glyphJoinsRow : OpenClaim := { program := "ytjelbeghojgooaa", sum := "eaae6c1bedf46b7d7648db3c9c079701c01c74de83bffaf313243147dd03743a", func := "hearsay/hearsaylaw1.GlyphJoins", spec := "glyphJoins", inPlace := ["internal/abi.NoEscape"], unfollowed := true, recurses := true, apart := false }
def GlyphJoinsSaid : Prop := glyphJoinsRow.holds Try.pinned (OpenSpec.ofChange glyphJoinsSpec)

/-- ITS FALSE NEIGHBOUR: 'it returns false'. Refute it at one input. -/
def glyphJoinsWrong : ChangeSpec := { name := "glyphJoins", fn := fun _ => fun
  | [d1, d2, d3] => { results := [.lit (.bool false)], args := [d1, d2, d3] }
  | _ => none }
def GlyphJoinsWrongFalsely : Prop := glyphJoinsRow.holds Try.pinned (OpenSpec.ofChange glyphJoinsWrong)

/-- 'hearsaylaw1.GlyphOwn': WHATEVER THE INPUT: true; the input reads as it did. -/
def glyphOwnSpec : ChangeSpec := { name := "glyphOwn", fn := fun _ => fun
  | [d] => { results := [.lit (.bool true)], args := [d] }
  | _ => none }
def glyphOwnRow : OpenClaim := { program := "ytjelbeghojgooaa", sum := "eaae6c1bedf46b7d7648db3c9c079701c01c74de83bffaf313243147dd03743a", func := "hearsay/hearsaylaw1.GlyphOwn", spec := "glyphOwn", inPlace := ["internal/abi.NoEscape"], unfollowed := true, recurses := true, apart := false }
def GlyphOwnSaid : Prop := glyphOwnRow.holds Try.pinned (OpenSpec.ofChange glyphOwnSpec)

/-- ITS FALSE NEIGHBOUR: 'it returns false'. Refute it at one input. -/
def glyphOwnWrong : ChangeSpec := { name := "glyphOwn", fn := fun _ => fun
  | [d] => { results := [.lit (.bool false)], args := [d] }
  | _ => none }
def GlyphOwnWrongFalsely : Prop := glyphOwnRow.holds Try.pinned (OpenSpec.ofChange glyphOwnWrong)

/-- 'hearsaylaw1.GlyphGoes': WHATEVER THE INPUT: true; the input reads as it did. -/
def glyphGoesSpec : ChangeSpec := { name := "glyphGoes", fn := fun _ => fun
  | [d1, d2] => { results := [.lit (.bool true)], args := [d1, d2] }
  | _ => none }
def glyphGoesRow : OpenClaim := { program := "ytjelbeghojgooaa", sum := "eaae6c1bedf46b7d7648db3c9c079701c01c74de83bffaf313243147dd03743a", func := "hearsay/hearsaylaw1.GlyphGoes", spec := "glyphGoes", inPlace := ["internal/abi.NoEscape"], unfollowed := true, recurses := true, apart := false }
def GlyphGoesSaid : Prop := glyphGoesRow.holds Try.pinned (OpenSpec.ofChange glyphGoesSpec)

/-- ITS FALSE NEIGHBOUR: 'it returns false'. Refute it at one input. -/
def glyphGoesWrong : ChangeSpec := { name := "glyphGoes", fn := fun _ => fun
  | [d1, d2] => { results := [.lit (.bool false)], args := [d1, d2] }
  | _ => none }
def GlyphGoesWrongFalsely : Prop := glyphGoesRow.holds Try.pinned (OpenSpec.ofChange glyphGoesWrong)

/- THE SECOND FORM. 'bulk': how many values and letters a reading holds, each counted each time it is reached (what is shared counts as often as it is met; a slice's spare places count too). A statement '..UptoSaid' is the law's where the arguments, and the package variables that the reading takes, are together of bulk at most 1048576: NARROWER than '..Said'. Prove '..Said' where nothing that the law and all that it calls make is longer than what came in: it says more and counts as full. Else prove '..UptoSaid'. A law counts once. -/
mutual
def uptoBulk {H : Type} : DataW H → Nat
  | .lit (.string bytes) => bytes.length + 1
  | .lit _ => 1
  | .nil => 1
  | .ptr d => uptoBulk d + 1
  | .slice elems spare => uptoBulkAll elems + uptoBulkAll spare + 1
  | .agg parts => uptoBulkAll parts + 1
  | .iface _ d => uptoBulk d + 1
  | .map entries => uptoBulkEntries entries + 1
  | .held _ => 1
def uptoBulkAll {H : Type} : List (DataW H) → Nat
  | [] => 0
  | d :: r => uptoBulk d + uptoBulkAll r
def uptoBulkEntries {H : Type} : List (Lit × DataW H) → Nat
  | [] => 0
  | x :: r => uptoBulkEntry x + uptoBulkEntries r
def uptoBulkEntry {H : Type} : Lit × DataW H → Nat
  | (.string bytes, d) => bytes.length + uptoBulk d + 1
  | (_, d) => uptoBulk d + 1
 end
def uptoSmall : (H : Type) → List (DataW H) → Bool := fun _ ds => decide (uptoBulkAll ds ≤ 1048576)
def OpenSpec.upto (s : _root_.Go.ChangeSpec) : _root_.Go.OpenSpec := { _root_.Go.OpenSpec.ofChange s with cond := some uptoSmall }

/-- 'hearsaylaw1.GlyphDecodes', WHERE WHAT IT READS IS OF BULK AT MOST 1048576: true; the input reads as it did. -/
def glyphDecodesUptoRow : OpenClaim := { program := "ytjelbeghojgooaa", sum := "eaae6c1bedf46b7d7648db3c9c079701c01c74de83bffaf313243147dd03743a", func := "hearsay/hearsaylaw1.GlyphDecodes", spec := "glyphDecodes", inPlace := ["internal/abi.NoEscape"], unfollowed := true, recurses := true, apart := false, narrowed := true }
def GlyphDecodesUptoSaid : Prop := glyphDecodesUptoRow.holds Try.pinned (OpenSpec.upto glyphDecodesSpec)

/-- 'hearsaylaw1.GlyphCuts', WHERE WHAT IT READS IS OF BULK AT MOST 1048576: true; the input reads as it did. -/
def glyphCutsUptoRow : OpenClaim := { program := "ytjelbeghojgooaa", sum := "eaae6c1bedf46b7d7648db3c9c079701c01c74de83bffaf313243147dd03743a", func := "hearsay/hearsaylaw1.GlyphCuts", spec := "glyphCuts", inPlace := ["internal/abi.NoEscape"], unfollowed := true, recurses := true, apart := false, narrowed := true }
def GlyphCutsUptoSaid : Prop := glyphCutsUptoRow.holds Try.pinned (OpenSpec.upto glyphCutsSpec)

/-- 'hearsaylaw1.GlyphTexts', WHERE WHAT IT READS IS OF BULK AT MOST 1048576: true; the input reads as it did. -/
def glyphTextsUptoRow : OpenClaim := { program := "ytjelbeghojgooaa", sum := "eaae6c1bedf46b7d7648db3c9c079701c01c74de83bffaf313243147dd03743a", func := "hearsay/hearsaylaw1.GlyphTexts", spec := "glyphTexts", inPlace := ["internal/abi.NoEscape"], unfollowed := true, recurses := true, apart := false, narrowed := true }
def GlyphTextsUptoSaid : Prop := glyphTextsUptoRow.holds Try.pinned (OpenSpec.upto glyphTextsSpec)

/-- 'hearsaylaw1.GlyphMeets', WHERE WHAT IT READS IS OF BULK AT MOST 1048576: true; the input reads as it did. -/
def glyphMeetsUptoRow : OpenClaim := { program := "ytjelbeghojgooaa", sum := "eaae6c1bedf46b7d7648db3c9c079701c01c74de83bffaf313243147dd03743a", func := "hearsay/hearsaylaw1.GlyphMeets", spec := "glyphMeets", inPlace := ["internal/abi.NoEscape"], unfollowed := true, recurses := true, apart := false, narrowed := true }
def GlyphMeetsUptoSaid : Prop := glyphMeetsUptoRow.holds Try.pinned (OpenSpec.upto glyphMeetsSpec)

/-- 'hearsaylaw1.GlyphRange', WHERE WHAT IT READS IS OF BULK AT MOST 1048576: true; the input reads as it did. -/
def glyphRangeUptoRow : OpenClaim := { program := "ytjelbeghojgooaa", sum := "eaae6c1bedf46b7d7648db3c9c079701c01c74de83bffaf313243147dd03743a", func := "hearsay/hearsaylaw1.GlyphRange", spec := "glyphRange", inPlace := ["internal/abi.NoEscape"], unfollowed := true, recurses := true, apart := false, narrowed := true }
def GlyphRangeUptoSaid : Prop := glyphRangeUptoRow.holds Try.pinned (OpenSpec.upto glyphRangeSpec)

/-- 'hearsaylaw1.GlyphMends', WHERE WHAT IT READS IS OF BULK AT MOST 1048576: true; the input reads as it did. -/
def glyphMendsUptoRow : OpenClaim := { program := "ytjelbeghojgooaa", sum := "eaae6c1bedf46b7d7648db3c9c079701c01c74de83bffaf313243147dd03743a", func := "hearsay/hearsaylaw1.GlyphMends", spec := "glyphMends", inPlace := ["internal/abi.NoEscape"], unfollowed := true, recurses := true, apart := false, narrowed := true }
def GlyphMendsUptoSaid : Prop := glyphMendsUptoRow.holds Try.pinned (OpenSpec.upto glyphMendsSpec)

/-- 'hearsaylaw1.GlyphJoins', WHERE WHAT IT READS IS OF BULK AT MOST 1048576: true; the input reads as it did. -/
def glyphJoinsUptoRow : OpenClaim := { program := "ytjelbeghojgooaa", sum := "eaae6c1bedf46b7d7648db3c9c079701c01c74de83bffaf313243147dd03743a", func := "hearsay/hearsaylaw1.GlyphJoins", spec := "glyphJoins", inPlace := ["internal/abi.NoEscape"], unfollowed := true, recurses := true, apart := false, narrowed := true }
def GlyphJoinsUptoSaid : Prop := glyphJoinsUptoRow.holds Try.pinned (OpenSpec.upto glyphJoinsSpec)

/-- 'hearsaylaw1.GlyphOwn', WHERE WHAT IT READS IS OF BULK AT MOST 1048576: true; the input reads as it did. -/
def glyphOwnUptoRow : OpenClaim := { program := "ytjelbeghojgooaa", sum := "eaae6c1bedf46b7d7648db3c9c079701c01c74de83bffaf313243147dd03743a", func := "hearsay/hearsaylaw1.GlyphOwn", spec := "glyphOwn", inPlace := ["internal/abi.NoEscape"], unfollowed := true, recurses := true, apart := false, narrowed := true }
def GlyphOwnUptoSaid : Prop := glyphOwnUptoRow.holds Try.pinned (OpenSpec.upto glyphOwnSpec)

/-- 'hearsaylaw1.GlyphGoes', WHERE WHAT IT READS IS OF BULK AT MOST 1048576: true; the input reads as it did. -/
def glyphGoesUptoRow : OpenClaim := { program := "ytjelbeghojgooaa", sum := "eaae6c1bedf46b7d7648db3c9c079701c01c74de83bffaf313243147dd03743a", func := "hearsay/hearsaylaw1.GlyphGoes", spec := "glyphGoes", inPlace := ["internal/abi.NoEscape"], unfollowed := true, recurses := true, apart := false, narrowed := true }
def GlyphGoesUptoSaid : Prop := glyphGoesUptoRow.holds Try.pinned (OpenSpec.upto glyphGoesSpec)

end Rows
end Go.Proofs.Ytjelbeghojgooaa
