/-
  Walk of the reference's Good.
-/
import Derived.Test.YtddbjclpmkelaaaGlyY
namespace Go.Proofs.Ytddbjclpmkelaaa
open Go.RowKit
set_option linter.unusedVariables false
set_option linter.unusedSimpArgs false

theorem rgood_any (s : ByteArray) (w : World) (hz : s.size ≤ 4294967296) :
    Calls Try.prog 29 #[.string s] w fun e w' => e = .returned (.bool (decide (badAt s < 0))) ∧ Keep [] w w' := by
  go_enter Try.func29, Try.ntmps29
  go_wp2_with fail
  refine (rbadAt_any s _ hz).mono ?_
  rintro q w1 ⟨rfl, hk⟩
  have HK := Lib.hid hk; clear hk
  go_wp2
  go_ret
  exact ⟨rfl, HK.out⟩
end Go.Proofs.Ytddbjclpmkelaaa
