/-
  WHAT IT HOLDS: contract of Sorted of the reference of layer 6. Conditions: the argument reads as a list of names.
-/
import Derived.Laws.CopyOwn
import Derived.Deep.RegionLaw
import Derived.Sort.Walk0
import Derived.Test.YtlbjbmpkaniojaaGreatZRBlameDiffers23
import Derived.Test.YtlbjbmpkaniojaaGreatZRBlameDiffers22
import Derived.Test.YtlbjbmpkaniojaaGreatZRBlameDiffers14
import Derived.Test.YtlbjbmpkaniojaaGreatZRBlameDiffers18
import Derived.Test.YtlbjbmpkaniojaaGreatZRBlameDiffers27
namespace Go.Proofs.YtlbjbmpkaniojaaGreat
open Go Go.RowKit Go.Maps
theorem bless (a b : Nm) : Op.bytesLess a.toList b.toList = decide (ltN a b) := by
  rw [Go.Proofs.bytesLess_eq, Lib.toList_data, Lib.toList_data]; rfl
end Go.Proofs.YtlbjbmpkaniojaaGreat
