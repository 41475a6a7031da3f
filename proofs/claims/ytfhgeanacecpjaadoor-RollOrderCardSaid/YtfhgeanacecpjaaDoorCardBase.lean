/-
  What the cards of the seat share: the table that the row lists, a world for the witness.
-/
import Derived.Test.YtfhgeanacecpjaaDoorCards
import Derived.Test.YtfhgeanacecpjaaDoorTie
import Derived.Test.YtfhgeanacecpjaaDoorRollC
import Derived.WalkKit
import Derived.ProofKit
import Derived.OpenShut
import Derived.Deep.DeepHandedRow
import Derived.Lib.LaidTab
import Derived.SizedLaws
import Derived.Carry
namespace Go.Proofs.YtfhgeanacecpjaaDoor
open Go.ChangeShapes Go.WideShapes Go.ChangeAt Go.RowKit
set_option linter.unusedVariables false

theorem own : ownKnob Tryd.prog.godebug = none := by kernel_rfl
theorem gTab : Tryd.prog.globalNamed "math/bits.deBruijn32tab" = some 0 := by kernel_rfl
theorem gTabType : (Tryd.prog.globals[0]?).map (·.type) = some 68 := by kernel_rfl
theorem cellsTab : Tryd.prog.cellsOf 68 = 32 := by kernel_rfl
theorem cellsU8 : Tryd.prog.cellsOf 5 = 1 := by kernel_rfl
theorem laidOut : laidOutB Tryd.prog = true := by kernel_rfl

/-- What each row of the seat lists. -/
def laid1 : List (String × DataW Unit) := [("math/bits.deBruijn32tab", Rows.laid_math_bits_deBruijn32tab)]

/-- WHAT THE ROW's LIST GIVES: the table's cells hold its numbers. -/
theorem table {W : World} (h : laidMetH Tryd.prog laid1 W) : TabW W := by
  have ht : Lib.TabIs Tryd.prog W "math/bits.deBruijn32tab" .u8 (Lib.deBruijn32tab.map Int.ofNat) :=
    Lib.tabIs_of_head (rest := []) gTab gTabType Tryd.underlying68 Tryd.underlying5 cellsU8 cellsTab h
  intro j hj
  have := ht.cell gTab j (by simpa using hj)
  rw [this]
  congr 2
  simp [List.getD_eq_getElem?_getD, List.getElem?_map, List.getElem?_eq_getElem hj]

/-- A WORLD FOR THE WITNESS: the settled one, the table's block holding what its initialiser lays. -/
noncomputable def laidWorld (os : Os) : World :=
  { World.holding Tryd.prog os ⟨#[], #[], []⟩ with heap := (World.holding Tryd.prog os ⟨#[], #[], []⟩).heap.modify 0 fun
      | .cells _ t frozen => .cells (Lib.deBruijn32tab.map fun (z : Nat) => Value.int .u8 z).toArray t frozen
      | o => o }
end Go.Proofs.YtfhgeanacecpjaaDoor
