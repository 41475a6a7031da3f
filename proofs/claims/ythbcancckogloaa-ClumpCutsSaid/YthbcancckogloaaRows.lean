/-
  No cell of these rows narrows 'for every input' (looked for: loops, veiled, ifaces, maps, wideKeys, modest, calm, conditions, laid).
  DERIVED. THE GIVEN ROWS OF THIS SEAT. 7 by the template 'for every input the law returns true; each argument reads behind the call as it read before'; 0 by the template 'total and deterministic' (their statements: YthbcancckogloaaTotals.lean).
  GIVEN WITH THE SEED: the statements are not yours to turn. If you find one false, say at which input.
  Laid BY PROGRAM, IN A SANDBOX (cutbox-rows.mjs): the forced cells as the released guide's own fill.sh prints them over the translation e157850aa10d17a0… (all of the seat's roots in one cut). By AI agents, Wed Nov 11 2026. No macro, syntax, notation, axiom, sorry.
-/
import Derived.Test.YthbcancckogloaaChecked
import GoSem.Claim
import GoSem.ClaimJoined
import GoSem.ClaimMapViews
import Derived.JoinedTies
import Derived.KernelRfl
namespace Go.Proofs.Ythbcancckogloaa
/- THE CELL 'sum', in the pinned program and in every row, IS THE sha256 OF THE DUMP (.gsa) THAT YthbcancckogloaaProg.lean LOADS. Nothing in Lean hashes anything: it is a label: what it is worth is what the hold of that sum in a sandbox is worth. -/
noncomputable def Try.pinned : Pinned := { name := "ythbcancckogloaa", sum := "e157850aa10d17a0da2cb64ec2fe031544e5aa70f6fdeb54c4067b44157006ad", checked := Try.checked }
namespace Rows
def none {H : Type} : Left H := { results := [], args := [] }

/-- 'hearsaylaw2.ClumpClasses': WHATEVER THE INPUT: true; the input reads as it did. -/
def clumpClassesSpec : ChangeSpec := { name := "clumpClasses", fn := fun _ => fun
  | [d1, d2] => { results := [.lit (.bool true)], args := [d1, d2] }
  | _ => none }
def clumpClassesRow : OpenClaim := { program := "ythbcancckogloaa", sum := "e157850aa10d17a0da2cb64ec2fe031544e5aa70f6fdeb54c4067b44157006ad", func := "hearsay/hearsaylaw2.ClumpClasses", spec := "clumpClasses", unfollowed := true, recurses := true, apart := false }
def ClumpClassesSaid : Prop := clumpClassesRow.holds Try.pinned (OpenSpec.ofChange clumpClassesSpec)

/-- ITS FALSE NEIGHBOUR: 'it returns false'. Refute it at one input. -/
def clumpClassesWrong : ChangeSpec := { name := "clumpClasses", fn := fun _ => fun
  | [d1, d2] => { results := [.lit (.bool false)], args := [d1, d2] }
  | _ => none }
def ClumpClassesWrongFalsely : Prop := clumpClassesRow.holds Try.pinned (OpenSpec.ofChange clumpClassesWrong)

/-- 'hearsaylaw2.ClumpBreaks': WHATEVER THE INPUT: true; the input reads as it did. -/
def clumpBreaksSpec : ChangeSpec := { name := "clumpBreaks", fn := fun _ => fun
  | [d1, d2] => { results := [.lit (.bool true)], args := [d1, d2] }
  | _ => none }
def clumpBreaksRow : OpenClaim := { program := "ythbcancckogloaa", sum := "e157850aa10d17a0da2cb64ec2fe031544e5aa70f6fdeb54c4067b44157006ad", func := "hearsay/hearsaylaw2.ClumpBreaks", spec := "clumpBreaks", unfollowed := true, recurses := true, apart := false }
def ClumpBreaksSaid : Prop := clumpBreaksRow.holds Try.pinned (OpenSpec.ofChange clumpBreaksSpec)

/-- ITS FALSE NEIGHBOUR: 'it returns false'. Refute it at one input. -/
def clumpBreaksWrong : ChangeSpec := { name := "clumpBreaks", fn := fun _ => fun
  | [d1, d2] => { results := [.lit (.bool false)], args := [d1, d2] }
  | _ => none }
def ClumpBreaksWrongFalsely : Prop := clumpBreaksRow.holds Try.pinned (OpenSpec.ofChange clumpBreaksWrong)

/-- 'hearsaylaw2.ClumpAlls': WHATEVER THE INPUT: true; the input reads as it did. -/
def clumpAllsSpec : ChangeSpec := { name := "clumpAlls", fn := fun _ => fun
  | [d1, d2] => { results := [.lit (.bool true)], args := [d1, d2] }
  | _ => none }
def clumpAllsRow : OpenClaim := { program := "ythbcancckogloaa", sum := "e157850aa10d17a0da2cb64ec2fe031544e5aa70f6fdeb54c4067b44157006ad", func := "hearsay/hearsaylaw2.ClumpAlls", spec := "clumpAlls", unfollowed := true, recurses := true, apart := false }
def ClumpAllsSaid : Prop := clumpAllsRow.holds Try.pinned (OpenSpec.ofChange clumpAllsSpec)

/-- ITS FALSE NEIGHBOUR: 'it returns false'. Refute it at one input. -/
def clumpAllsWrong : ChangeSpec := { name := "clumpAlls", fn := fun _ => fun
  | [d1, d2] => { results := [.lit (.bool false)], args := [d1, d2] }
  | _ => none }
def ClumpAllsWrongFalsely : Prop := clumpAllsRow.holds Try.pinned (OpenSpec.ofChange clumpAllsWrong)

/-- 'hearsaylaw2.ClumpSteps': WHATEVER THE INPUT: true; the input reads as it did. -/
def clumpStepsSpec : ChangeSpec := { name := "clumpSteps", fn := fun _ => fun
  | [d1, d2] => { results := [.lit (.bool true)], args := [d1, d2] }
  | _ => none }
def clumpStepsRow : OpenClaim := { program := "ythbcancckogloaa", sum := "e157850aa10d17a0da2cb64ec2fe031544e5aa70f6fdeb54c4067b44157006ad", func := "hearsay/hearsaylaw2.ClumpSteps", spec := "clumpSteps", unfollowed := true, recurses := true, apart := false }
def ClumpStepsSaid : Prop := clumpStepsRow.holds Try.pinned (OpenSpec.ofChange clumpStepsSpec)

/-- ITS FALSE NEIGHBOUR: 'it returns false'. Refute it at one input. -/
def clumpStepsWrong : ChangeSpec := { name := "clumpSteps", fn := fun _ => fun
  | [d1, d2] => { results := [.lit (.bool false)], args := [d1, d2] }
  | _ => none }
def ClumpStepsWrongFalsely : Prop := clumpStepsRow.holds Try.pinned (OpenSpec.ofChange clumpStepsWrong)

/-- 'hearsaylaw2.ClumpJoins': WHATEVER THE INPUT: true; the input reads as it did. -/
def clumpJoinsSpec : ChangeSpec := { name := "clumpJoins", fn := fun _ => fun
  | [d] => { results := [.lit (.bool true)], args := [d] }
  | _ => none }
def clumpJoinsRow : OpenClaim := { program := "ythbcancckogloaa", sum := "e157850aa10d17a0da2cb64ec2fe031544e5aa70f6fdeb54c4067b44157006ad", func := "hearsay/hearsaylaw2.ClumpJoins", spec := "clumpJoins", unfollowed := true, recurses := true, apart := false }
def ClumpJoinsSaid : Prop := clumpJoinsRow.holds Try.pinned (OpenSpec.ofChange clumpJoinsSpec)

/-- ITS FALSE NEIGHBOUR: 'it returns false'. Refute it at one input. -/
def clumpJoinsWrong : ChangeSpec := { name := "clumpJoins", fn := fun _ => fun
  | [d] => { results := [.lit (.bool false)], args := [d] }
  | _ => none }
def ClumpJoinsWrongFalsely : Prop := clumpJoinsRow.holds Try.pinned (OpenSpec.ofChange clumpJoinsWrong)

/-- 'hearsaylaw2.ClumpCuts': WHATEVER THE INPUT: true; the input reads as it did. -/
def clumpCutsSpec : ChangeSpec := { name := "clumpCuts", fn := fun _ => fun
  | [d1, d2, d3] => { results := [.lit (.bool true)], args := [d1, d2, d3] }
  | _ => none }
def clumpCutsRow : OpenClaim := { program := "ythbcancckogloaa", sum := "e157850aa10d17a0da2cb64ec2fe031544e5aa70f6fdeb54c4067b44157006ad", func := "hearsay/hearsaylaw2.ClumpCuts", spec := "clumpCuts", unfollowed := true, recurses := true, apart := false }
def ClumpCutsSaid : Prop := clumpCutsRow.holds Try.pinned (OpenSpec.ofChange clumpCutsSpec)

/-- ITS FALSE NEIGHBOUR: 'it returns false'. Refute it at one input. -/
def clumpCutsWrong : ChangeSpec := { name := "clumpCuts", fn := fun _ => fun
  | [d1, d2, d3] => { results := [.lit (.bool false)], args := [d1, d2, d3] }
  | _ => none }
def ClumpCutsWrongFalsely : Prop := clumpCutsRow.holds Try.pinned (OpenSpec.ofChange clumpCutsWrong)

/-- 'hearsaylaw2.ClumpOne': WHATEVER THE INPUT: true; the input reads as it did. -/
def clumpOneSpec : ChangeSpec := { name := "clumpOne", fn := fun _ => fun
  | [d] => { results := [.lit (.bool true)], args := [d] }
  | _ => none }
def clumpOneRow : OpenClaim := { program := "ythbcancckogloaa", sum := "e157850aa10d17a0da2cb64ec2fe031544e5aa70f6fdeb54c4067b44157006ad", func := "hearsay/hearsaylaw2.ClumpOne", spec := "clumpOne", unfollowed := true, recurses := true, apart := false }
def ClumpOneSaid : Prop := clumpOneRow.holds Try.pinned (OpenSpec.ofChange clumpOneSpec)

/-- ITS FALSE NEIGHBOUR: 'it returns false'. Refute it at one input. -/
def clumpOneWrong : ChangeSpec := { name := "clumpOne", fn := fun _ => fun
  | [d] => { results := [.lit (.bool false)], args := [d] }
  | _ => none }
def ClumpOneWrongFalsely : Prop := clumpOneRow.holds Try.pinned (OpenSpec.ofChange clumpOneWrong)

/- THE SECOND FORM. 'bulk': how many values and letters a reading holds, each counted each time it is reached (what is shared counts as often as it is met; a slice's spare places count too). A statement '..UptoSaid' is the law's where the arguments, and the package variables that the reading takes, are together of bulk at most 1048576: NARROWER than '..Said'. Prove '..Said' where nothing that the law and all that it calls make is longer than what came in: it says more and counts as full. Else prove '..UptoSaid'. A law counts once. -/
mutual
def uptoBulk {H : Type} : DataW H → Nat
  | .lit (.string bytes) => bytes.length + 1
  | .lit _ => 1
  | .nil => 1
  | .ptr d => uptoBulk d + 1
  | .slice elems spare => uptoBulkAll elems + uptoBulkAll spare + 1
  | .agg parts => uptoBulkAll parts + 1
  | .iface _ d => uptoBulk d + 1
  | .map entries => uptoBulkEntries entries + 1
  | .held _ => 1
def uptoBulkAll {H : Type} : List (DataW H) → Nat
  | [] => 0
  | d :: r => uptoBulk d + uptoBulkAll r
def uptoBulkEntries {H : Type} : List (Lit × DataW H) → Nat
  | [] => 0
  | x :: r => uptoBulkEntry x + uptoBulkEntries r
def uptoBulkEntry {H : Type} : Lit × DataW H → Nat
  | (.string bytes, d) => bytes.length + uptoBulk d + 1
  | (_, d) => uptoBulk d + 1
 end
def uptoSmall : (H : Type) → List (DataW H) → Bool := fun _ ds => decide (uptoBulkAll ds ≤ 1048576)
def OpenSpec.upto (s : _root_.Go.ChangeSpec) : _root_.Go.OpenSpec := { _root_.Go.OpenSpec.ofChange s with cond := some uptoSmall }

/-- 'hearsaylaw2.ClumpClasses', WHERE WHAT IT READS IS OF BULK AT MOST 1048576: true; the input reads as it did. -/
def clumpClassesUptoRow : OpenClaim := { program := "ythbcancckogloaa", sum := "e157850aa10d17a0da2cb64ec2fe031544e5aa70f6fdeb54c4067b44157006ad", func := "hearsay/hearsaylaw2.ClumpClasses", spec := "clumpClasses", unfollowed := true, recurses := true, apart := false, narrowed := true }
def ClumpClassesUptoSaid : Prop := clumpClassesUptoRow.holds Try.pinned (OpenSpec.upto clumpClassesSpec)

/-- 'hearsaylaw2.ClumpBreaks', WHERE WHAT IT READS IS OF BULK AT MOST 1048576: true; the input reads as it did. -/
def clumpBreaksUptoRow : OpenClaim := { program := "ythbcancckogloaa", sum := "e157850aa10d17a0da2cb64ec2fe031544e5aa70f6fdeb54c4067b44157006ad", func := "hearsay/hearsaylaw2.ClumpBreaks", spec := "clumpBreaks", unfollowed := true, recurses := true, apart := false, narrowed := true }
def ClumpBreaksUptoSaid : Prop := clumpBreaksUptoRow.holds Try.pinned (OpenSpec.upto clumpBreaksSpec)

/-- 'hearsaylaw2.ClumpAlls', WHERE WHAT IT READS IS OF BULK AT MOST 1048576: true; the input reads as it did. -/
def clumpAllsUptoRow : OpenClaim := { program := "ythbcancckogloaa", sum := "e157850aa10d17a0da2cb64ec2fe031544e5aa70f6fdeb54c4067b44157006ad", func := "hearsay/hearsaylaw2.ClumpAlls", spec := "clumpAlls", unfollowed := true, recurses := true, apart := false, narrowed := true }
def ClumpAllsUptoSaid : Prop := clumpAllsUptoRow.holds Try.pinned (OpenSpec.upto clumpAllsSpec)

/-- 'hearsaylaw2.ClumpSteps', WHERE WHAT IT READS IS OF BULK AT MOST 1048576: true; the input reads as it did. -/
def clumpStepsUptoRow : OpenClaim := { program := "ythbcancckogloaa", sum := "e157850aa10d17a0da2cb64ec2fe031544e5aa70f6fdeb54c4067b44157006ad", func := "hearsay/hearsaylaw2.ClumpSteps", spec := "clumpSteps", unfollowed := true, recurses := true, apart := false, narrowed := true }
def ClumpStepsUptoSaid : Prop := clumpStepsUptoRow.holds Try.pinned (OpenSpec.upto clumpStepsSpec)

/-- 'hearsaylaw2.ClumpJoins', WHERE WHAT IT READS IS OF BULK AT MOST 1048576: true; the input reads as it did. -/
def clumpJoinsUptoRow : OpenClaim := { program := "ythbcancckogloaa", sum := "e157850aa10d17a0da2cb64ec2fe031544e5aa70f6fdeb54c4067b44157006ad", func := "hearsay/hearsaylaw2.ClumpJoins", spec := "clumpJoins", unfollowed := true, recurses := true, apart := false, narrowed := true }
def ClumpJoinsUptoSaid : Prop := clumpJoinsUptoRow.holds Try.pinned (OpenSpec.upto clumpJoinsSpec)

/-- 'hearsaylaw2.ClumpCuts', WHERE WHAT IT READS IS OF BULK AT MOST 1048576: true; the input reads as it did. -/
def clumpCutsUptoRow : OpenClaim := { program := "ythbcancckogloaa", sum := "e157850aa10d17a0da2cb64ec2fe031544e5aa70f6fdeb54c4067b44157006ad", func := "hearsay/hearsaylaw2.ClumpCuts", spec := "clumpCuts", unfollowed := true, recurses := true, apart := false, narrowed := true }
def ClumpCutsUptoSaid : Prop := clumpCutsUptoRow.holds Try.pinned (OpenSpec.upto clumpCutsSpec)

/-- 'hearsaylaw2.ClumpOne', WHERE WHAT IT READS IS OF BULK AT MOST 1048576: true; the input reads as it did. -/
def clumpOneUptoRow : OpenClaim := { program := "ythbcancckogloaa", sum := "e157850aa10d17a0da2cb64ec2fe031544e5aa70f6fdeb54c4067b44157006ad", func := "hearsay/hearsaylaw2.ClumpOne", spec := "clumpOne", unfollowed := true, recurses := true, apart := false, narrowed := true }
def ClumpOneUptoSaid : Prop := clumpOneUptoRow.holds Try.pinned (OpenSpec.upto clumpOneSpec)

end Rows
end Go.Proofs.Ythbcancckogloaa
