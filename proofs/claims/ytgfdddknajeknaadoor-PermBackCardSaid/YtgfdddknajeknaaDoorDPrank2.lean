/-
  The walk over parterreref1.PermRank. Conditions: the slice can be read and is a permutation.
-/
import Derived.Test.YtgfdddknajeknaaDoorDPrank
namespace Go.Proofs.YtgfdddknajeknaaDoor
set_option linter.unusedVariables false
open Go.RowKit

end Go.Proofs.YtgfdddknajeknaaDoor
