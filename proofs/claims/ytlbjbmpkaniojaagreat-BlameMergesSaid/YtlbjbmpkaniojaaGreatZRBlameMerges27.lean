/-
  WHAT IT HOLDS: a region that draws its order, in a round of a loop over a function: one walk of the lexical order serves. Over any program. No condition.
-/
import Derived.BigQuiet
import Derived.OrdersIn
import Derived.Test.YtlbjbmpkaniojaaGreatZRBlameMerges15
namespace Go.Proofs.YtlbjbmpkaniojaaGreat
open Go
end Go.Proofs.YtlbjbmpkaniojaaGreat
