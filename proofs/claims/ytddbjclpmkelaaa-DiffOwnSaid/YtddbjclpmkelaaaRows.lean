/-
  No cell of these rows narrows 'for every input' (looked for: loops, veiled, ifaces, maps, wideKeys, modest, calm, conditions, laid).
  DERIVED. THE GIVEN ROWS OF THIS SEAT. 7 by the template 'for every input the law returns true; each argument reads behind the call as it read before'; 0 by the template 'total and deterministic' (their statements: YtddbjclpmkelaaaTotals.lean).
  GIVEN WITH THE SEED: the statements are not yours to turn. If you find one false, say at which input.
  Laid BY PROGRAM, IN A SANDBOX (cutbox-rows.mjs): the forced cells as the released guide's own fill.sh prints them over the translation c8dd50f378688a21… (all of the seat's roots in one cut). By AI agents, Wed Nov 11 2026. No macro, syntax, notation, axiom, sorry.
-/
import Derived.Test.YtddbjclpmkelaaaChecked
import GoSem.Claim
import GoSem.ClaimJoined
import GoSem.ClaimMapViews
import Derived.JoinedTies
import Derived.KernelRfl
namespace Go.Proofs.Ytddbjclpmkelaaa
/- THE CELL 'sum', in the pinned program and in every row, IS THE sha256 OF THE DUMP (.gsa) THAT YtddbjclpmkelaaaProg.lean LOADS. Nothing in Lean hashes anything: it is a label: what it is worth is what the hold of that sum in a sandbox is worth. -/
noncomputable def Try.pinned : Pinned := { name := "ytddbjclpmkelaaa", sum := "c8dd50f378688a21f4281f78f8bece880a0dc9ed19231449b7599cfb431c80a6", checked := Try.checked }
namespace Rows
def none {H : Type} : Left H := { results := [], args := [] }

/-- 'hearsaylaw5.DiffMakes': WHATEVER THE INPUT: true; the input reads as it did. -/
def diffMakesSpec : ChangeSpec := { name := "diffMakes", fn := fun _ => fun
  | [d1, d2] => { results := [.lit (.bool true)], args := [d1, d2] }
  | _ => none }
def diffMakesRow : OpenClaim := { program := "ytddbjclpmkelaaa", sum := "c8dd50f378688a21f4281f78f8bece880a0dc9ed19231449b7599cfb431c80a6", func := "hearsay/hearsaylaw5.DiffMakes", spec := "diffMakes", inPlace := ["internal/abi.NoEscape"], unfollowed := true, recurses := true, apart := false }
def DiffMakesSaid : Prop := diffMakesRow.holds Try.pinned (OpenSpec.ofChange diffMakesSpec)

/-- ITS FALSE NEIGHBOUR: 'it returns false'. Refute it at one input. -/
def diffMakesWrong : ChangeSpec := { name := "diffMakes", fn := fun _ => fun
  | [d1, d2] => { results := [.lit (.bool false)], args := [d1, d2] }
  | _ => none }
def DiffMakesWrongFalsely : Prop := diffMakesRow.holds Try.pinned (OpenSpec.ofChange diffMakesWrong)

/-- 'hearsaylaw5.DiffLimits': WHATEVER THE INPUT: true; the input reads as it did. -/
def diffLimitsSpec : ChangeSpec := { name := "diffLimits", fn := fun _ => fun
  | [d1, d2, d3] => { results := [.lit (.bool true)], args := [d1, d2, d3] }
  | _ => none }
def diffLimitsRow : OpenClaim := { program := "ytddbjclpmkelaaa", sum := "c8dd50f378688a21f4281f78f8bece880a0dc9ed19231449b7599cfb431c80a6", func := "hearsay/hearsaylaw5.DiffLimits", spec := "diffLimits", inPlace := ["internal/abi.NoEscape"], unfollowed := true, recurses := true, apart := false }
def DiffLimitsSaid : Prop := diffLimitsRow.holds Try.pinned (OpenSpec.ofChange diffLimitsSpec)

/-- ITS FALSE NEIGHBOUR: 'it returns false'. Refute it at one input. -/
def diffLimitsWrong : ChangeSpec := { name := "diffLimits", fn := fun _ => fun
  | [d1, d2, d3] => { results := [.lit (.bool false)], args := [d1, d2, d3] }
  | _ => none }
def DiffLimitsWrongFalsely : Prop := diffLimitsRow.holds Try.pinned (OpenSpec.ofChange diffLimitsWrong)

/-- 'hearsaylaw5.DiffApplies': WHATEVER THE INPUT: true; the input reads as it did. -/
def diffAppliesSpec : ChangeSpec := { name := "diffApplies", fn := fun _ => fun
  | [d1, d2] => { results := [.lit (.bool true)], args := [d1, d2] }
  | _ => none }
def diffAppliesRow : OpenClaim := { program := "ytddbjclpmkelaaa", sum := "c8dd50f378688a21f4281f78f8bece880a0dc9ed19231449b7599cfb431c80a6", func := "hearsay/hearsaylaw5.DiffApplies", spec := "diffApplies", inPlace := ["internal/abi.NoEscape"], unfollowed := true, recurses := true, apart := false }
def DiffAppliesSaid : Prop := diffAppliesRow.holds Try.pinned (OpenSpec.ofChange diffAppliesSpec)

/-- ITS FALSE NEIGHBOUR: 'it returns false'. Refute it at one input. -/
def diffAppliesWrong : ChangeSpec := { name := "diffApplies", fn := fun _ => fun
  | [d1, d2] => { results := [.lit (.bool false)], args := [d1, d2] }
  | _ => none }
def DiffAppliesWrongFalsely : Prop := diffAppliesRow.holds Try.pinned (OpenSpec.ofChange diffAppliesWrong)

/-- 'hearsaylaw5.DiffLeast': WHATEVER THE INPUT: true; the input reads as it did. -/
def diffLeastSpec : ChangeSpec := { name := "diffLeast", fn := fun _ => fun
  | [d1, d2] => { results := [.lit (.bool true)], args := [d1, d2] }
  | _ => none }
def diffLeastRow : OpenClaim := { program := "ytddbjclpmkelaaa", sum := "c8dd50f378688a21f4281f78f8bece880a0dc9ed19231449b7599cfb431c80a6", func := "hearsay/hearsaylaw5.DiffLeast", spec := "diffLeast", inPlace := ["internal/abi.NoEscape"], unfollowed := true, recurses := true, apart := false }
def DiffLeastSaid : Prop := diffLeastRow.holds Try.pinned (OpenSpec.ofChange diffLeastSpec)

/-- ITS FALSE NEIGHBOUR: 'it returns false'. Refute it at one input. -/
def diffLeastWrong : ChangeSpec := { name := "diffLeast", fn := fun _ => fun
  | [d1, d2] => { results := [.lit (.bool false)], args := [d1, d2] }
  | _ => none }
def DiffLeastWrongFalsely : Prop := diffLeastRow.holds Try.pinned (OpenSpec.ofChange diffLeastWrong)

/-- 'hearsaylaw5.DiffBack': WHATEVER THE INPUT: true; the input reads as it did. -/
def diffBackSpec : ChangeSpec := { name := "diffBack", fn := fun _ => fun
  | [d1, d2] => { results := [.lit (.bool true)], args := [d1, d2] }
  | _ => none }
def diffBackRow : OpenClaim := { program := "ytddbjclpmkelaaa", sum := "c8dd50f378688a21f4281f78f8bece880a0dc9ed19231449b7599cfb431c80a6", func := "hearsay/hearsaylaw5.DiffBack", spec := "diffBack", inPlace := ["internal/abi.NoEscape"], unfollowed := true, recurses := true, apart := false }
def DiffBackSaid : Prop := diffBackRow.holds Try.pinned (OpenSpec.ofChange diffBackSpec)

/-- ITS FALSE NEIGHBOUR: 'it returns false'. Refute it at one input. -/
def diffBackWrong : ChangeSpec := { name := "diffBack", fn := fun _ => fun
  | [d1, d2] => { results := [.lit (.bool false)], args := [d1, d2] }
  | _ => none }
def DiffBackWrongFalsely : Prop := diffBackRow.holds Try.pinned (OpenSpec.ofChange diffBackWrong)

/-- 'hearsaylaw5.DiffOwn': WHATEVER THE INPUT: true; the input reads as it did. -/
def diffOwnSpec : ChangeSpec := { name := "diffOwn", fn := fun _ => fun
  | [d1, d2] => { results := [.lit (.bool true)], args := [d1, d2] }
  | _ => none }
def diffOwnRow : OpenClaim := { program := "ytddbjclpmkelaaa", sum := "c8dd50f378688a21f4281f78f8bece880a0dc9ed19231449b7599cfb431c80a6", func := "hearsay/hearsaylaw5.DiffOwn", spec := "diffOwn", inPlace := ["internal/abi.NoEscape"], unfollowed := true, recurses := true, apart := false }
def DiffOwnSaid : Prop := diffOwnRow.holds Try.pinned (OpenSpec.ofChange diffOwnSpec)

/-- ITS FALSE NEIGHBOUR: 'it returns false'. Refute it at one input. -/
def diffOwnWrong : ChangeSpec := { name := "diffOwn", fn := fun _ => fun
  | [d1, d2] => { results := [.lit (.bool false)], args := [d1, d2] }
  | _ => none }
def DiffOwnWrongFalsely : Prop := diffOwnRow.holds Try.pinned (OpenSpec.ofChange diffOwnWrong)

/-- 'hearsaylaw5.DiffAround': WHATEVER THE INPUT: true; the input reads as it did. -/
def diffAroundSpec : ChangeSpec := { name := "diffAround", fn := fun _ => fun
  | [d1, d2, d3] => { results := [.lit (.bool true)], args := [d1, d2, d3] }
  | _ => none }
def diffAroundRow : OpenClaim := { program := "ytddbjclpmkelaaa", sum := "c8dd50f378688a21f4281f78f8bece880a0dc9ed19231449b7599cfb431c80a6", func := "hearsay/hearsaylaw5.DiffAround", spec := "diffAround", inPlace := ["internal/abi.NoEscape"], unfollowed := true, recurses := true, apart := false }
def DiffAroundSaid : Prop := diffAroundRow.holds Try.pinned (OpenSpec.ofChange diffAroundSpec)

/-- ITS FALSE NEIGHBOUR: 'it returns false'. Refute it at one input. -/
def diffAroundWrong : ChangeSpec := { name := "diffAround", fn := fun _ => fun
  | [d1, d2, d3] => { results := [.lit (.bool false)], args := [d1, d2, d3] }
  | _ => none }
def DiffAroundWrongFalsely : Prop := diffAroundRow.holds Try.pinned (OpenSpec.ofChange diffAroundWrong)

/- THE SECOND FORM. 'bulk': how many values and letters a reading holds, each counted each time it is reached (what is shared counts as often as it is met; a slice's spare places count too). A statement '..UptoSaid' is the law's where the arguments, and the package variables that the reading takes, are together of bulk at most 1048576: NARROWER than '..Said'. Prove '..Said' where nothing that the law and all that it calls make is longer than what came in: it says more and counts as full. Else prove '..UptoSaid'. A law counts once. -/
mutual
def uptoBulk {H : Type} : DataW H → Nat
  | .lit (.string bytes) => bytes.length + 1
  | .lit _ => 1
  | .nil => 1
  | .ptr d => uptoBulk d + 1
  | .slice elems spare => uptoBulkAll elems + uptoBulkAll spare + 1
  | .agg parts => uptoBulkAll parts + 1
  | .iface _ d => uptoBulk d + 1
  | .map entries => uptoBulkEntries entries + 1
  | .held _ => 1
def uptoBulkAll {H : Type} : List (DataW H) → Nat
  | [] => 0
  | d :: r => uptoBulk d + uptoBulkAll r
def uptoBulkEntries {H : Type} : List (Lit × DataW H) → Nat
  | [] => 0
  | x :: r => uptoBulkEntry x + uptoBulkEntries r
def uptoBulkEntry {H : Type} : Lit × DataW H → Nat
  | (.string bytes, d) => bytes.length + uptoBulk d + 1
  | (_, d) => uptoBulk d + 1
 end
def uptoSmall : (H : Type) → List (DataW H) → Bool := fun _ ds => decide (uptoBulkAll ds ≤ 1048576)
def OpenSpec.upto (s : _root_.Go.ChangeSpec) : _root_.Go.OpenSpec := { _root_.Go.OpenSpec.ofChange s with cond := some uptoSmall }

/-- 'hearsaylaw5.DiffMakes', WHERE WHAT IT READS IS OF BULK AT MOST 1048576: true; the input reads as it did. -/
def diffMakesUptoRow : OpenClaim := { program := "ytddbjclpmkelaaa", sum := "c8dd50f378688a21f4281f78f8bece880a0dc9ed19231449b7599cfb431c80a6", func := "hearsay/hearsaylaw5.DiffMakes", spec := "diffMakes", inPlace := ["internal/abi.NoEscape"], unfollowed := true, recurses := true, apart := false, narrowed := true }
def DiffMakesUptoSaid : Prop := diffMakesUptoRow.holds Try.pinned (OpenSpec.upto diffMakesSpec)

/-- 'hearsaylaw5.DiffLimits', WHERE WHAT IT READS IS OF BULK AT MOST 1048576: true; the input reads as it did. -/
def diffLimitsUptoRow : OpenClaim := { program := "ytddbjclpmkelaaa", sum := "c8dd50f378688a21f4281f78f8bece880a0dc9ed19231449b7599cfb431c80a6", func := "hearsay/hearsaylaw5.DiffLimits", spec := "diffLimits", inPlace := ["internal/abi.NoEscape"], unfollowed := true, recurses := true, apart := false, narrowed := true }
def DiffLimitsUptoSaid : Prop := diffLimitsUptoRow.holds Try.pinned (OpenSpec.upto diffLimitsSpec)

/-- 'hearsaylaw5.DiffApplies', WHERE WHAT IT READS IS OF BULK AT MOST 1048576: true; the input reads as it did. -/
def diffAppliesUptoRow : OpenClaim := { program := "ytddbjclpmkelaaa", sum := "c8dd50f378688a21f4281f78f8bece880a0dc9ed19231449b7599cfb431c80a6", func := "hearsay/hearsaylaw5.DiffApplies", spec := "diffApplies", inPlace := ["internal/abi.NoEscape"], unfollowed := true, recurses := true, apart := false, narrowed := true }
def DiffAppliesUptoSaid : Prop := diffAppliesUptoRow.holds Try.pinned (OpenSpec.upto diffAppliesSpec)

/-- 'hearsaylaw5.DiffLeast', WHERE WHAT IT READS IS OF BULK AT MOST 1048576: true; the input reads as it did. -/
def diffLeastUptoRow : OpenClaim := { program := "ytddbjclpmkelaaa", sum := "c8dd50f378688a21f4281f78f8bece880a0dc9ed19231449b7599cfb431c80a6", func := "hearsay/hearsaylaw5.DiffLeast", spec := "diffLeast", inPlace := ["internal/abi.NoEscape"], unfollowed := true, recurses := true, apart := false, narrowed := true }
def DiffLeastUptoSaid : Prop := diffLeastUptoRow.holds Try.pinned (OpenSpec.upto diffLeastSpec)

/-- 'hearsaylaw5.DiffBack', WHERE WHAT IT READS IS OF BULK AT MOST 1048576: true; the input reads as it did. -/
def diffBackUptoRow : OpenClaim := { program := "ytddbjclpmkelaaa", sum := "c8dd50f378688a21f4281f78f8bece880a0dc9ed19231449b7599cfb431c80a6", func := "hearsay/hearsaylaw5.DiffBack", spec := "diffBack", inPlace := ["internal/abi.NoEscape"], unfollowed := true, recurses := true, apart := false, narrowed := true }
def DiffBackUptoSaid : Prop := diffBackUptoRow.holds Try.pinned (OpenSpec.upto diffBackSpec)

/-- 'hearsaylaw5.DiffOwn', WHERE WHAT IT READS IS OF BULK AT MOST 1048576: true; the input reads as it did. -/
def diffOwnUptoRow : OpenClaim := { program := "ytddbjclpmkelaaa", sum := "c8dd50f378688a21f4281f78f8bece880a0dc9ed19231449b7599cfb431c80a6", func := "hearsay/hearsaylaw5.DiffOwn", spec := "diffOwn", inPlace := ["internal/abi.NoEscape"], unfollowed := true, recurses := true, apart := false, narrowed := true }
def DiffOwnUptoSaid : Prop := diffOwnUptoRow.holds Try.pinned (OpenSpec.upto diffOwnSpec)

/-- 'hearsaylaw5.DiffAround', WHERE WHAT IT READS IS OF BULK AT MOST 1048576: true; the input reads as it did. -/
def diffAroundUptoRow : OpenClaim := { program := "ytddbjclpmkelaaa", sum := "c8dd50f378688a21f4281f78f8bece880a0dc9ed19231449b7599cfb431c80a6", func := "hearsay/hearsaylaw5.DiffAround", spec := "diffAround", inPlace := ["internal/abi.NoEscape"], unfollowed := true, recurses := true, apart := false, narrowed := true }
def DiffAroundUptoSaid : Prop := diffAroundUptoRow.holds Try.pinned (OpenSpec.upto diffAroundSpec)

end Rows
end Go.Proofs.Ytddbjclpmkelaaa
