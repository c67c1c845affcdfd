/-
  espalierlaw24.of: its walk.
-/
import Derived.Test.YtnphhibfiklfjaaPkC

import Derived.Deep.Cut

set_option linter.unusedVariables false

set_option linter.unusedSimpArgs false

namespace Go.Proofs.Ytnphhibfiklfjaa

open Go.RowKit

end Go.Proofs.Ytnphhibfiklfjaa
