/-
  WHAT IT HOLDS: a new solver of the reference (layer 2). No condition.
  WHAT IT HOLDS: contracts of detach and Detach of the reference of layer 4. Conditions: the arguments read as data.
-/
import Derived.Deep.WholeRow
import Derived.Test.YtlbjbmpkaniojaaGreatZRBlameMarks21
import Derived.Test.YtlbjbmpkaniojaaGreatZRBlameMarks20
namespace Go.Proofs.YtlbjbmpkaniojaaGreat
open Go Go.RowKit Go.Maps
end Go.Proofs.YtlbjbmpkaniojaaGreat
namespace Go.Proofs.YtlbjbmpkaniojaaGreat
open Go Go.RowKit Go.Maps
end Go.Proofs.YtlbjbmpkaniojaaGreat
