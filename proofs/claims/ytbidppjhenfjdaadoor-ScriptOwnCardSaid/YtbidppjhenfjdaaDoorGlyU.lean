/-
  Walks of the reference's Decode, Last.
-/
import Derived.Test.YtbidppjhenfjdaaDoorGlyT
import Derived.Test.YtbidppjhenfjdaaDoorGlyV
namespace Go.Proofs.YtbidppjhenfjdaaDoor
open Go.RowKit
set_option linter.unusedVariables false
set_option linter.unusedSimpArgs false

theorem begV_or (s : ByteArray) (i : Nat) : ∃ r n : Nat, begV s i = .tuple #[.int .i32 r, .int .i64 n] ∧ n = wid s i ∧ (n ≠ 0 → r = (dec s i).1) := by
  by_cases hw : wid s i = 0
  · exact ⟨0, 0, begV_no hw, hw.symm, fun h => absurd rfl h⟩
  · refine ⟨(dec s i).1, wid s i, ?_, rfl, fun _ => rfl⟩
    unfold begV; rw [if_neg hw]

end Go.Proofs.YtbidppjhenfjdaaDoor
