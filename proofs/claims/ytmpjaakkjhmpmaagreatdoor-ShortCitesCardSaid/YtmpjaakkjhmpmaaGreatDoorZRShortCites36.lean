/-
  WHAT IT HOLDS: contract of Sorted of the reference of layer 6. Conditions: the argument reads as a list of names.
-/
import Derived.Laws.CopyOwn
import Derived.Deep.RegionLaw
import Derived.Sort.Walk0
import Derived.Test.YtmpjaakkjhmpmaaGreatDoorZRShortCites26
import Derived.Test.YtmpjaakkjhmpmaaGreatDoorZRShortCites22
import Derived.Test.YtmpjaakkjhmpmaaGreatDoorZRShortCites13
import Derived.Test.YtmpjaakkjhmpmaaGreatDoorZRShortCites21
import Derived.Test.YtmpjaakkjhmpmaaGreatDoorZRShortCites30
namespace Go.Proofs.YtmpjaakkjhmpmaaGreatDoor
open Go Go.RowKit Go.Maps
end Go.Proofs.YtmpjaakkjhmpmaaGreatDoor
