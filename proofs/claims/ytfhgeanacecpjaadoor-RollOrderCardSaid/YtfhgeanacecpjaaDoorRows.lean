/-
  NARROWER THAN 'FOR EVERY INPUT', by the rows' own cells (each row's printed sentence says how): RollBack: laid · RollOwn: laid · RollPlays: laid · RollLoads: laid · RollTwo: laid · RollNothing: laid · RollOrder: laid.
  DERIVED. THE GIVEN ROWS OF THIS SEAT. 7 by the template 'for every input the law returns true; each argument reads behind the call as it read before'; 0 by the template 'total and deterministic' (their statements: YtfhgeanacecpjaaDoorTotals.lean).
  GIVEN WITH THE SEED: the statements are not yours to turn. If you find one false, say at which input.
  Laid BY PROGRAM, IN A SANDBOX (cutbox-rows.mjs): the forced cells as the released guide's own fill.sh prints them over the translation 843a1b26ee368d54… (all of the seat's roots in one cut). By AI agents, Wed Nov 11 2026. No macro, syntax, notation, axiom, sorry.
-/
import Derived.Test.YtfhgeanacecpjaaDoorChecked
import GoSem.Claim
import GoSem.ClaimJoined
import GoSem.ClaimMapViews
import Derived.JoinedTies
import Derived.KernelRfl
namespace Go.Proofs.YtfhgeanacecpjaaDoor
/- THE CELL 'sum', in the pinned program and in every row, IS THE sha256 OF THE DUMP (.gsa) THAT YtfhgeanacecpjaaDoorProg.lean LOADS. Nothing in Lean hashes anything: it is a label: what it is worth is what the hold of that sum in a sandbox is worth. -/
noncomputable def Tryd.pinned : Pinned := { name := "ytfhgeanacecpjaadoor", sum := "843a1b26ee368d54a4591ebb190a3d0dbc23e904b653055fbe18cbeab6288636", checked := Tryd.checked }
namespace Rows
def none {H : Type} : Left H := { results := [], args := [] }

/- WHAT THE LISTED PACKAGE-LEVEL VARIABLES READ AS WHEN THE CALL BEGINS. Each datum BY PROGRAM (the guide's laid-datum.mjs) off the statement by which the dump's own 'gosem.cut.vars' lays the variable. In a bare row this is a premise. The card (YtfhgeanacecpjaaDoorCards.lean) ties it to the program's text. -/
def laid_math_bits_deBruijn32tab {H : Type} : DataW H := .agg [.lit (.int .u8 0), .lit (.int .u8 1), .lit (.int .u8 28), .lit (.int .u8 2), .lit (.int .u8 29), .lit (.int .u8 14), .lit (.int .u8 24), .lit (.int .u8 3), .lit (.int .u8 30), .lit (.int .u8 22), .lit (.int .u8 20), .lit (.int .u8 15), .lit (.int .u8 25), .lit (.int .u8 17), .lit (.int .u8 4), .lit (.int .u8 8), .lit (.int .u8 31), .lit (.int .u8 27), .lit (.int .u8 13), .lit (.int .u8 23), .lit (.int .u8 21), .lit (.int .u8 19), .lit (.int .u8 16), .lit (.int .u8 7), .lit (.int .u8 26), .lit (.int .u8 12), .lit (.int .u8 18), .lit (.int .u8 6), .lit (.int .u8 11), .lit (.int .u8 5), .lit (.int .u8 10), .lit (.int .u8 9)]

/-- 'hearsaylaw16.RollBack': WHATEVER THE INPUT: true; the input reads as it did. -/
def rollBackSpec : ChangeSpec := { name := "rollBack", fn := fun _ => fun
  | [d1, d2] => { results := [.lit (.bool true)], args := [d1, d2] }
  | _ => none }
def rollBackRow : OpenClaim := { program := "ytfhgeanacecpjaadoor", sum := "843a1b26ee368d54a4591ebb190a3d0dbc23e904b653055fbe18cbeab6288636", func := "hearsay/hearsaylaw16.RollBack", spec := "rollBack", unfollowed := true, recurses := true, named := ["math/bits.deBruijn32tab"], apart := false, laid := [("math/bits.deBruijn32tab", laid_math_bits_deBruijn32tab)] }
def RollBackSaid : Prop := rollBackRow.holds Tryd.pinned (OpenSpec.ofChange rollBackSpec)

/-- ITS FALSE NEIGHBOUR: 'it returns false'. Refute it at one input. -/
def rollBackWrong : ChangeSpec := { name := "rollBack", fn := fun _ => fun
  | [d1, d2] => { results := [.lit (.bool false)], args := [d1, d2] }
  | _ => none }
def RollBackWrongFalsely : Prop := rollBackRow.holds Tryd.pinned (OpenSpec.ofChange rollBackWrong)

/-- 'hearsaylaw16.RollOwn': WHATEVER THE INPUT: true; the input reads as it did. -/
def rollOwnSpec : ChangeSpec := { name := "rollOwn", fn := fun _ => fun
  | [d] => { results := [.lit (.bool true)], args := [d] }
  | _ => none }
def rollOwnRow : OpenClaim := { program := "ytfhgeanacecpjaadoor", sum := "843a1b26ee368d54a4591ebb190a3d0dbc23e904b653055fbe18cbeab6288636", func := "hearsay/hearsaylaw16.RollOwn", spec := "rollOwn", unfollowed := true, recurses := true, named := ["math/bits.deBruijn32tab"], apart := false, laid := [("math/bits.deBruijn32tab", laid_math_bits_deBruijn32tab)] }
def RollOwnSaid : Prop := rollOwnRow.holds Tryd.pinned (OpenSpec.ofChange rollOwnSpec)

/-- ITS FALSE NEIGHBOUR: 'it returns false'. Refute it at one input. -/
def rollOwnWrong : ChangeSpec := { name := "rollOwn", fn := fun _ => fun
  | [d] => { results := [.lit (.bool false)], args := [d] }
  | _ => none }
def RollOwnWrongFalsely : Prop := rollOwnRow.holds Tryd.pinned (OpenSpec.ofChange rollOwnWrong)

/-- 'hearsaylaw16.RollPlays': WHATEVER THE INPUT: true; the input reads as it did. -/
def rollPlaysSpec : ChangeSpec := { name := "rollPlays", fn := fun _ => fun
  | [d1, d2] => { results := [.lit (.bool true)], args := [d1, d2] }
  | _ => none }
def rollPlaysRow : OpenClaim := { program := "ytfhgeanacecpjaadoor", sum := "843a1b26ee368d54a4591ebb190a3d0dbc23e904b653055fbe18cbeab6288636", func := "hearsay/hearsaylaw16.RollPlays", spec := "rollPlays", unfollowed := true, recurses := true, named := ["math/bits.deBruijn32tab"], apart := false, laid := [("math/bits.deBruijn32tab", laid_math_bits_deBruijn32tab)] }
def RollPlaysSaid : Prop := rollPlaysRow.holds Tryd.pinned (OpenSpec.ofChange rollPlaysSpec)

/-- ITS FALSE NEIGHBOUR: 'it returns false'. Refute it at one input. -/
def rollPlaysWrong : ChangeSpec := { name := "rollPlays", fn := fun _ => fun
  | [d1, d2] => { results := [.lit (.bool false)], args := [d1, d2] }
  | _ => none }
def RollPlaysWrongFalsely : Prop := rollPlaysRow.holds Tryd.pinned (OpenSpec.ofChange rollPlaysWrong)

/-- 'hearsaylaw16.RollLoads': WHATEVER THE INPUT: true; the input reads as it did. -/
def rollLoadsSpec : ChangeSpec := { name := "rollLoads", fn := fun _ => fun
  | [d1, d2, d3, d4] => { results := [.lit (.bool true)], args := [d1, d2, d3, d4] }
  | _ => none }
def rollLoadsRow : OpenClaim := { program := "ytfhgeanacecpjaadoor", sum := "843a1b26ee368d54a4591ebb190a3d0dbc23e904b653055fbe18cbeab6288636", func := "hearsay/hearsaylaw16.RollLoads", spec := "rollLoads", unfollowed := true, recurses := true, named := ["math/bits.deBruijn32tab"], apart := false, laid := [("math/bits.deBruijn32tab", laid_math_bits_deBruijn32tab)] }
def RollLoadsSaid : Prop := rollLoadsRow.holds Tryd.pinned (OpenSpec.ofChange rollLoadsSpec)

/-- ITS FALSE NEIGHBOUR: 'it returns false'. Refute it at one input. -/
def rollLoadsWrong : ChangeSpec := { name := "rollLoads", fn := fun _ => fun
  | [d1, d2, d3, d4] => { results := [.lit (.bool false)], args := [d1, d2, d3, d4] }
  | _ => none }
def RollLoadsWrongFalsely : Prop := rollLoadsRow.holds Tryd.pinned (OpenSpec.ofChange rollLoadsWrong)

/-- 'hearsaylaw16.RollTwo': WHATEVER THE INPUT: true; the input reads as it did. -/
def rollTwoSpec : ChangeSpec := { name := "rollTwo", fn := fun _ => fun
  | [d1, d2] => { results := [.lit (.bool true)], args := [d1, d2] }
  | _ => none }
def rollTwoRow : OpenClaim := { program := "ytfhgeanacecpjaadoor", sum := "843a1b26ee368d54a4591ebb190a3d0dbc23e904b653055fbe18cbeab6288636", func := "hearsay/hearsaylaw16.RollTwo", spec := "rollTwo", unfollowed := true, recurses := true, named := ["math/bits.deBruijn32tab"], apart := false, laid := [("math/bits.deBruijn32tab", laid_math_bits_deBruijn32tab)] }
def RollTwoSaid : Prop := rollTwoRow.holds Tryd.pinned (OpenSpec.ofChange rollTwoSpec)

/-- ITS FALSE NEIGHBOUR: 'it returns false'. Refute it at one input. -/
def rollTwoWrong : ChangeSpec := { name := "rollTwo", fn := fun _ => fun
  | [d1, d2] => { results := [.lit (.bool false)], args := [d1, d2] }
  | _ => none }
def RollTwoWrongFalsely : Prop := rollTwoRow.holds Tryd.pinned (OpenSpec.ofChange rollTwoWrong)

/-- 'hearsaylaw16.RollNothing': WHATEVER THE INPUT: true; the input reads as it did. -/
def rollNothingSpec : ChangeSpec := { name := "rollNothing", fn := fun _ => fun
  | [d] => { results := [.lit (.bool true)], args := [d] }
  | _ => none }
def rollNothingRow : OpenClaim := { program := "ytfhgeanacecpjaadoor", sum := "843a1b26ee368d54a4591ebb190a3d0dbc23e904b653055fbe18cbeab6288636", func := "hearsay/hearsaylaw16.RollNothing", spec := "rollNothing", unfollowed := true, recurses := true, named := ["math/bits.deBruijn32tab"], apart := false, laid := [("math/bits.deBruijn32tab", laid_math_bits_deBruijn32tab)] }
def RollNothingSaid : Prop := rollNothingRow.holds Tryd.pinned (OpenSpec.ofChange rollNothingSpec)

/-- ITS FALSE NEIGHBOUR: 'it returns false'. Refute it at one input. -/
def rollNothingWrong : ChangeSpec := { name := "rollNothing", fn := fun _ => fun
  | [d] => { results := [.lit (.bool false)], args := [d] }
  | _ => none }
def RollNothingWrongFalsely : Prop := rollNothingRow.holds Tryd.pinned (OpenSpec.ofChange rollNothingWrong)

/-- 'hearsaylaw16.RollOrder': WHATEVER THE INPUT: true; the input reads as it did. -/
def rollOrderSpec : ChangeSpec := { name := "rollOrder", fn := fun _ => fun
  | [d1, d2] => { results := [.lit (.bool true)], args := [d1, d2] }
  | _ => none }
def rollOrderRow : OpenClaim := { program := "ytfhgeanacecpjaadoor", sum := "843a1b26ee368d54a4591ebb190a3d0dbc23e904b653055fbe18cbeab6288636", func := "hearsay/hearsaylaw16.RollOrder", spec := "rollOrder", unfollowed := true, recurses := true, named := ["math/bits.deBruijn32tab"], apart := false, laid := [("math/bits.deBruijn32tab", laid_math_bits_deBruijn32tab)] }
def RollOrderSaid : Prop := rollOrderRow.holds Tryd.pinned (OpenSpec.ofChange rollOrderSpec)

/-- ITS FALSE NEIGHBOUR: 'it returns false'. Refute it at one input. -/
def rollOrderWrong : ChangeSpec := { name := "rollOrder", fn := fun _ => fun
  | [d1, d2] => { results := [.lit (.bool false)], args := [d1, d2] }
  | _ => none }
def RollOrderWrongFalsely : Prop := rollOrderRow.holds Tryd.pinned (OpenSpec.ofChange rollOrderWrong)

/- THE SECOND FORM. 'bulk': how many values and letters a reading holds, each counted each time it is reached (what is shared counts as often as it is met; a slice's spare places count too). A statement '..UptoSaid' is the law's where the arguments, and the package variables that the reading takes, are together of bulk at most 1048576: NARROWER than '..Said'. Prove '..Said' where nothing that the law and all that it calls make is longer than what came in: it says more and counts as full. Else prove '..UptoSaid'. A law counts once. -/
mutual
def uptoBulk {H : Type} : DataW H → Nat
  | .lit (.string bytes) => bytes.length + 1
  | .lit _ => 1
  | .nil => 1
  | .ptr d => uptoBulk d + 1
  | .slice elems spare => uptoBulkAll elems + uptoBulkAll spare + 1
  | .agg parts => uptoBulkAll parts + 1
  | .iface _ d => uptoBulk d + 1
  | .map entries => uptoBulkEntries entries + 1
  | .held _ => 1
def uptoBulkAll {H : Type} : List (DataW H) → Nat
  | [] => 0
  | d :: r => uptoBulk d + uptoBulkAll r
def uptoBulkEntries {H : Type} : List (Lit × DataW H) → Nat
  | [] => 0
  | x :: r => uptoBulkEntry x + uptoBulkEntries r
def uptoBulkEntry {H : Type} : Lit × DataW H → Nat
  | (.string bytes, d) => bytes.length + uptoBulk d + 1
  | (_, d) => uptoBulk d + 1
 end
def uptoSmall : (H : Type) → List (DataW H) → Bool := fun _ ds => decide (uptoBulkAll ds ≤ 1048576)
def OpenSpec.upto (s : _root_.Go.ChangeSpec) : _root_.Go.OpenSpec := { _root_.Go.OpenSpec.ofChange s with cond := some uptoSmall }

/-- 'hearsaylaw16.RollBack', WHERE WHAT IT READS IS OF BULK AT MOST 1048576: true; the input reads as it did. -/
def rollBackUptoRow : OpenClaim := { program := "ytfhgeanacecpjaadoor", sum := "843a1b26ee368d54a4591ebb190a3d0dbc23e904b653055fbe18cbeab6288636", func := "hearsay/hearsaylaw16.RollBack", spec := "rollBack", unfollowed := true, recurses := true, named := ["math/bits.deBruijn32tab"], apart := false, laid := [("math/bits.deBruijn32tab", laid_math_bits_deBruijn32tab)], narrowed := true }
def RollBackUptoSaid : Prop := rollBackUptoRow.holds Tryd.pinned (OpenSpec.upto rollBackSpec)

/-- 'hearsaylaw16.RollOwn', WHERE WHAT IT READS IS OF BULK AT MOST 1048576: true; the input reads as it did. -/
def rollOwnUptoRow : OpenClaim := { program := "ytfhgeanacecpjaadoor", sum := "843a1b26ee368d54a4591ebb190a3d0dbc23e904b653055fbe18cbeab6288636", func := "hearsay/hearsaylaw16.RollOwn", spec := "rollOwn", unfollowed := true, recurses := true, named := ["math/bits.deBruijn32tab"], apart := false, laid := [("math/bits.deBruijn32tab", laid_math_bits_deBruijn32tab)], narrowed := true }
def RollOwnUptoSaid : Prop := rollOwnUptoRow.holds Tryd.pinned (OpenSpec.upto rollOwnSpec)

/-- 'hearsaylaw16.RollPlays', WHERE WHAT IT READS IS OF BULK AT MOST 1048576: true; the input reads as it did. -/
def rollPlaysUptoRow : OpenClaim := { program := "ytfhgeanacecpjaadoor", sum := "843a1b26ee368d54a4591ebb190a3d0dbc23e904b653055fbe18cbeab6288636", func := "hearsay/hearsaylaw16.RollPlays", spec := "rollPlays", unfollowed := true, recurses := true, named := ["math/bits.deBruijn32tab"], apart := false, laid := [("math/bits.deBruijn32tab", laid_math_bits_deBruijn32tab)], narrowed := true }
def RollPlaysUptoSaid : Prop := rollPlaysUptoRow.holds Tryd.pinned (OpenSpec.upto rollPlaysSpec)

/-- 'hearsaylaw16.RollLoads', WHERE WHAT IT READS IS OF BULK AT MOST 1048576: true; the input reads as it did. -/
def rollLoadsUptoRow : OpenClaim := { program := "ytfhgeanacecpjaadoor", sum := "843a1b26ee368d54a4591ebb190a3d0dbc23e904b653055fbe18cbeab6288636", func := "hearsay/hearsaylaw16.RollLoads", spec := "rollLoads", unfollowed := true, recurses := true, named := ["math/bits.deBruijn32tab"], apart := false, laid := [("math/bits.deBruijn32tab", laid_math_bits_deBruijn32tab)], narrowed := true }
def RollLoadsUptoSaid : Prop := rollLoadsUptoRow.holds Tryd.pinned (OpenSpec.upto rollLoadsSpec)

/-- 'hearsaylaw16.RollTwo', WHERE WHAT IT READS IS OF BULK AT MOST 1048576: true; the input reads as it did. -/
def rollTwoUptoRow : OpenClaim := { program := "ytfhgeanacecpjaadoor", sum := "843a1b26ee368d54a4591ebb190a3d0dbc23e904b653055fbe18cbeab6288636", func := "hearsay/hearsaylaw16.RollTwo", spec := "rollTwo", unfollowed := true, recurses := true, named := ["math/bits.deBruijn32tab"], apart := false, laid := [("math/bits.deBruijn32tab", laid_math_bits_deBruijn32tab)], narrowed := true }
def RollTwoUptoSaid : Prop := rollTwoUptoRow.holds Tryd.pinned (OpenSpec.upto rollTwoSpec)

/-- 'hearsaylaw16.RollNothing', WHERE WHAT IT READS IS OF BULK AT MOST 1048576: true; the input reads as it did. -/
def rollNothingUptoRow : OpenClaim := { program := "ytfhgeanacecpjaadoor", sum := "843a1b26ee368d54a4591ebb190a3d0dbc23e904b653055fbe18cbeab6288636", func := "hearsay/hearsaylaw16.RollNothing", spec := "rollNothing", unfollowed := true, recurses := true, named := ["math/bits.deBruijn32tab"], apart := false, laid := [("math/bits.deBruijn32tab", laid_math_bits_deBruijn32tab)], narrowed := true }
def RollNothingUptoSaid : Prop := rollNothingUptoRow.holds Tryd.pinned (OpenSpec.upto rollNothingSpec)

/-- 'hearsaylaw16.RollOrder', WHERE WHAT IT READS IS OF BULK AT MOST 1048576: true; the input reads as it did. -/
def rollOrderUptoRow : OpenClaim := { program := "ytfhgeanacecpjaadoor", sum := "843a1b26ee368d54a4591ebb190a3d0dbc23e904b653055fbe18cbeab6288636", func := "hearsay/hearsaylaw16.RollOrder", spec := "rollOrder", unfollowed := true, recurses := true, named := ["math/bits.deBruijn32tab"], apart := false, laid := [("math/bits.deBruijn32tab", laid_math_bits_deBruijn32tab)], narrowed := true }
def RollOrderUptoSaid : Prop := rollOrderUptoRow.holds Tryd.pinned (OpenSpec.upto rollOrderSpec)

end Rows
end Go.Proofs.YtfhgeanacecpjaaDoor
