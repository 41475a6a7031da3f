/-
  No cell of these rows narrows 'for every input' (looked for: loops, veiled, ifaces, maps, wideKeys, modest, calm, conditions, laid).
  DERIVED. THE GIVEN ROWS OF THIS SEAT. 4 by the template 'for every input the law returns true; each argument reads behind the call as it read before'; 0 by the template 'total and deterministic' (their statements: YtodbjehggkdjaaaTotals.lean).
  GIVEN WITH THE SEED: the statements are not yours to turn. If you find one false, say at which input.
  Laid BY PROGRAM, IN A SANDBOX (cutbox-rows.mjs): the forced cells as the released guide's own fill.sh prints them over the translation 8df9f0f80d7af925… (all of the seat's roots in one cut). By AI agents, Wed Nov 11 2026. No macro, syntax, notation, axiom, sorry.
-/
import Derived.Test.YtodbjehggkdjaaaChecked
import GoSem.Claim
import GoSem.ClaimJoined
import GoSem.ClaimMapViews
import Derived.JoinedTies
import Derived.KernelRfl
namespace Go.Proofs.Ytodbjehggkdjaaa
/- THE CELL 'sum', in the pinned program and in every row, IS THE sha256 OF THE DUMP (.gsa) THAT YtodbjehggkdjaaaProg.lean LOADS. Nothing in Lean hashes anything: it is a label: what it is worth is what the hold of that sum in a sandbox is worth. -/
noncomputable def Try.pinned : Pinned := { name := "ytodbjehggkdjaaa", sum := "8df9f0f80d7af92524a983f24283942ca3f719eecfeff96fd27da416201eb048", checked := Try.checked }
namespace Rows
def none {H : Type} : Left H := { results := [], args := [] }

/-- 'hearsaylaw3.PlaceTells': WHATEVER THE INPUT: true; the input reads as it did. -/
def placeTellsSpec : ChangeSpec := { name := "placeTells", fn := fun _ => fun
  | [d1, d2, d3, d4, d5] => { results := [.lit (.bool true)], args := [d1, d2, d3, d4, d5] }
  | _ => none }
def placeTellsRow : OpenClaim := { program := "ytodbjehggkdjaaa", sum := "8df9f0f80d7af92524a983f24283942ca3f719eecfeff96fd27da416201eb048", func := "hearsay/hearsaylaw3.PlaceTells", spec := "placeTells", unfollowed := true, recurses := true, apart := false }
def PlaceTellsSaid : Prop := placeTellsRow.holds Try.pinned (OpenSpec.ofChange placeTellsSpec)

/-- ITS FALSE NEIGHBOUR: 'it returns false'. Refute it at one input. -/
def placeTellsWrong : ChangeSpec := { name := "placeTells", fn := fun _ => fun
  | [d1, d2, d3, d4, d5] => { results := [.lit (.bool false)], args := [d1, d2, d3, d4, d5] }
  | _ => none }
def PlaceTellsWrongFalsely : Prop := placeTellsRow.holds Try.pinned (OpenSpec.ofChange placeTellsWrong)

/-- 'hearsaylaw3.PlaceAll': WHATEVER THE INPUT: true; the input reads as it did. -/
def placeAllSpec : ChangeSpec := { name := "placeAll", fn := fun _ => fun
  | [d] => { results := [.lit (.bool true)], args := [d] }
  | _ => none }
def placeAllRow : OpenClaim := { program := "ytodbjehggkdjaaa", sum := "8df9f0f80d7af92524a983f24283942ca3f719eecfeff96fd27da416201eb048", func := "hearsay/hearsaylaw3.PlaceAll", spec := "placeAll", unfollowed := true, recurses := true, apart := false }
def PlaceAllSaid : Prop := placeAllRow.holds Try.pinned (OpenSpec.ofChange placeAllSpec)

/-- ITS FALSE NEIGHBOUR: 'it returns false'. Refute it at one input. -/
def placeAllWrong : ChangeSpec := { name := "placeAll", fn := fun _ => fun
  | [d] => { results := [.lit (.bool false)], args := [d] }
  | _ => none }
def PlaceAllWrongFalsely : Prop := placeAllRow.holds Try.pinned (OpenSpec.ofChange placeAllWrong)

/-- 'hearsaylaw3.PlaceTwo': WHATEVER THE INPUT: true; the input reads as it did. -/
def placeTwoSpec : ChangeSpec := { name := "placeTwo", fn := fun _ => fun
  | [d1, d2, d3, d4] => { results := [.lit (.bool true)], args := [d1, d2, d3, d4] }
  | _ => none }
def placeTwoRow : OpenClaim := { program := "ytodbjehggkdjaaa", sum := "8df9f0f80d7af92524a983f24283942ca3f719eecfeff96fd27da416201eb048", func := "hearsay/hearsaylaw3.PlaceTwo", spec := "placeTwo", unfollowed := true, recurses := true, apart := false }
def PlaceTwoSaid : Prop := placeTwoRow.holds Try.pinned (OpenSpec.ofChange placeTwoSpec)

/-- ITS FALSE NEIGHBOUR: 'it returns false'. Refute it at one input. -/
def placeTwoWrong : ChangeSpec := { name := "placeTwo", fn := fun _ => fun
  | [d1, d2, d3, d4] => { results := [.lit (.bool false)], args := [d1, d2, d3, d4] }
  | _ => none }
def PlaceTwoWrongFalsely : Prop := placeTwoRow.holds Try.pinned (OpenSpec.ofChange placeTwoWrong)

/-- 'hearsaylaw3.PlaceBack': WHATEVER THE INPUT: true; the input reads as it did. -/
def placeBackSpec : ChangeSpec := { name := "placeBack", fn := fun _ => fun
  | [d] => { results := [.lit (.bool true)], args := [d] }
  | _ => none }
def placeBackRow : OpenClaim := { program := "ytodbjehggkdjaaa", sum := "8df9f0f80d7af92524a983f24283942ca3f719eecfeff96fd27da416201eb048", func := "hearsay/hearsaylaw3.PlaceBack", spec := "placeBack", unfollowed := true, recurses := true, apart := false }
def PlaceBackSaid : Prop := placeBackRow.holds Try.pinned (OpenSpec.ofChange placeBackSpec)

/-- ITS FALSE NEIGHBOUR: 'it returns false'. Refute it at one input. -/
def placeBackWrong : ChangeSpec := { name := "placeBack", fn := fun _ => fun
  | [d] => { results := [.lit (.bool false)], args := [d] }
  | _ => none }
def PlaceBackWrongFalsely : Prop := placeBackRow.holds Try.pinned (OpenSpec.ofChange placeBackWrong)

/- THE SECOND FORM. 'bulk': how many values and letters a reading holds, each counted each time it is reached (what is shared counts as often as it is met; a slice's spare places count too). A statement '..UptoSaid' is the law's where the arguments, and the package variables that the reading takes, are together of bulk at most 1048576: NARROWER than '..Said'. Prove '..Said' where nothing that the law and all that it calls make is longer than what came in: it says more and counts as full. Else prove '..UptoSaid'. A law counts once. -/
mutual
def uptoBulk {H : Type} : DataW H → Nat
  | .lit (.string bytes) => bytes.length + 1
  | .lit _ => 1
  | .nil => 1
  | .ptr d => uptoBulk d + 1
  | .slice elems spare => uptoBulkAll elems + uptoBulkAll spare + 1
  | .agg parts => uptoBulkAll parts + 1
  | .iface _ d => uptoBulk d + 1
  | .map entries => uptoBulkEntries entries + 1
  | .held _ => 1
def uptoBulkAll {H : Type} : List (DataW H) → Nat
  | [] => 0
  | d :: r => uptoBulk d + uptoBulkAll r
def uptoBulkEntries {H : Type} : List (Lit × DataW H) → Nat
  | [] => 0
  | x :: r => uptoBulkEntry x + uptoBulkEntries r
def uptoBulkEntry {H : Type} : Lit × DataW H → Nat
  | (.string bytes, d) => bytes.length + uptoBulk d + 1
  | (_, d) => uptoBulk d + 1
 end
def uptoSmall : (H : Type) → List (DataW H) → Bool := fun _ ds => decide (uptoBulkAll ds ≤ 1048576)
def OpenSpec.upto (s : _root_.Go.ChangeSpec) : _root_.Go.OpenSpec := { _root_.Go.OpenSpec.ofChange s with cond := some uptoSmall }

/-- 'hearsaylaw3.PlaceTells', WHERE WHAT IT READS IS OF BULK AT MOST 1048576: true; the input reads as it did. -/
def placeTellsUptoRow : OpenClaim := { program := "ytodbjehggkdjaaa", sum := "8df9f0f80d7af92524a983f24283942ca3f719eecfeff96fd27da416201eb048", func := "hearsay/hearsaylaw3.PlaceTells", spec := "placeTells", unfollowed := true, recurses := true, apart := false, narrowed := true }
def PlaceTellsUptoSaid : Prop := placeTellsUptoRow.holds Try.pinned (OpenSpec.upto placeTellsSpec)

/-- 'hearsaylaw3.PlaceAll', WHERE WHAT IT READS IS OF BULK AT MOST 1048576: true; the input reads as it did. -/
def placeAllUptoRow : OpenClaim := { program := "ytodbjehggkdjaaa", sum := "8df9f0f80d7af92524a983f24283942ca3f719eecfeff96fd27da416201eb048", func := "hearsay/hearsaylaw3.PlaceAll", spec := "placeAll", unfollowed := true, recurses := true, apart := false, narrowed := true }
def PlaceAllUptoSaid : Prop := placeAllUptoRow.holds Try.pinned (OpenSpec.upto placeAllSpec)

/-- 'hearsaylaw3.PlaceTwo', WHERE WHAT IT READS IS OF BULK AT MOST 1048576: true; the input reads as it did. -/
def placeTwoUptoRow : OpenClaim := { program := "ytodbjehggkdjaaa", sum := "8df9f0f80d7af92524a983f24283942ca3f719eecfeff96fd27da416201eb048", func := "hearsay/hearsaylaw3.PlaceTwo", spec := "placeTwo", unfollowed := true, recurses := true, apart := false, narrowed := true }
def PlaceTwoUptoSaid : Prop := placeTwoUptoRow.holds Try.pinned (OpenSpec.upto placeTwoSpec)

/-- 'hearsaylaw3.PlaceBack', WHERE WHAT IT READS IS OF BULK AT MOST 1048576: true; the input reads as it did. -/
def placeBackUptoRow : OpenClaim := { program := "ytodbjehggkdjaaa", sum := "8df9f0f80d7af92524a983f24283942ca3f719eecfeff96fd27da416201eb048", func := "hearsay/hearsaylaw3.PlaceBack", spec := "placeBack", unfollowed := true, recurses := true, apart := false, narrowed := true }
def PlaceBackUptoSaid : Prop := placeBackUptoRow.holds Try.pinned (OpenSpec.upto placeBackSpec)

end Rows
end Go.Proofs.Ytodbjehggkdjaaa
