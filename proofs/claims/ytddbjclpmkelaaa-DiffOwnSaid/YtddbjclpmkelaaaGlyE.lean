/-
  Walks of Decode, Last.
-/
import Derived.Test.YtddbjclpmkelaaaGlyD
import Derived.Test.YtddbjclpmkelaaaGlyV
namespace Go.Proofs.Ytddbjclpmkelaaa
open Go.RowKit
set_option linter.unusedVariables false
set_option linter.unusedSimpArgs false

end Go.Proofs.Ytddbjclpmkelaaa
