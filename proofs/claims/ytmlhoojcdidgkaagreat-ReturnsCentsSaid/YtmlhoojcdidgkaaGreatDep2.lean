/-
  Contracts of package deposit and of its reference: entries.
-/
import Derived.Test.YtmlhoojcdidgkaaGreatM11
import Derived.Deep.DeepCutAuto
namespace Go.Proofs.YtmlhoojcdidgkaaGreat
set_option linter.unusedSimpArgs false
set_option linter.unusedVariables false
open Go.RowKit
open Go.Sort (grow size_grow)

set_option maxHeartbeats 4000000
set_option maxRecDepth 100000

end Go.Proofs.YtmlhoojcdidgkaaGreat
