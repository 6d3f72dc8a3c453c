/-
  WHAT IT HOLDS: contracts of cmp.Compare at strings, of the comparison of Equivalences of package carry, and of slices.SortFunc at pairs of names of the call's own. Conditions: the arguments read as data.
-/
import Derived.Deep.RegionHeld3
import Derived.Laws.Cover1
import Derived.Shelf.SlSortCmp.NoneTotal
import Derived.Test.YtmpjaakkjhmpmaaGreatDoorZRShortCites2
import Derived.Test.YtmpjaakkjhmpmaaGreatDoorZRShortCites36
import Derived.Test.YtmpjaakkjhmpmaaGreatDoorZRShortCites15
import Derived.Test.YtmpjaakkjhmpmaaGreatDoorZRShortCites16
namespace Go.Proofs.YtmpjaakkjhmpmaaGreatDoor
open Go Go.RowKit Go.Maps
instance : Inhabited N2 := ⟨(ByteArray.empty, ByteArray.empty)⟩
end Go.Proofs.YtmpjaakkjhmpmaaGreatDoor
