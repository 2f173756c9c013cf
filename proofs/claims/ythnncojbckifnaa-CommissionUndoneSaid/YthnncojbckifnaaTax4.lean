/-
  Contracts of the reference of package tax: lists of taxes.
-/
import Derived.Test.YthnncojbckifnaaTax3
namespace Go.Proofs.Ythnncojbckifnaa
set_option linter.unusedSimpArgs false
set_option linter.unusedVariables false
open Go.RowKit Go.Maps
open Go.Sort (grow size_grow)

set_option maxHeartbeats 2000000
set_option maxRecDepth 100000

end Go.Proofs.Ythnncojbckifnaa
