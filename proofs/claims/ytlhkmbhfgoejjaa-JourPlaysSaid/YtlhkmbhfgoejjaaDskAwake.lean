/-
  kistlaw11: the fixed fact.
-/
import Derived.Test.YtlhkmbhfgoejjaaDskUse

namespace Go.Proofs.Ytlhkmbhfgoejjaa
open Go.RowKit
set_option linter.unusedVariables false

end Go.Proofs.Ytlhkmbhfgoejjaa
