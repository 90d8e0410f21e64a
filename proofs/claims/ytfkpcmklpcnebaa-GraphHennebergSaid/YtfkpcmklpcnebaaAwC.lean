/-
  awake returns true: from the contract of Components.
-/
import Derived.Test.YtfkpcmklpcnebaaL3
import Derived.Test.YtfkpcmklpcnebaaLg1
import Derived.Test.YtfkpcmklpcnebaaOpenB
namespace Go.Proofs.Ytfkpcmklpcnebaa
set_option linter.unusedVariables false
set_option linter.unusedSimpArgs false
open Go.ChangeShapes Go.WideShapes Go.ChangeAt Go.RowKit Go.Sort

theorem awc : AwContract := fun w => awakeG gcomp_any w
end Go.Proofs.Ytfkpcmklpcnebaa
