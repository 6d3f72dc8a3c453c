/-
  WHAT IT HOLDS: contract of Sorted of the reference of layer 6. Conditions: the argument reads as a list of names.
-/
import Derived.Laws.CopyOwn
import Derived.Deep.RegionLaw
import Derived.Sort.Walk0
import Derived.Test.YtmpjaakkjhmpmaaGreatDoorZRShortTimes30
import Derived.Test.YtmpjaakkjhmpmaaGreatDoorZRShortTimes24
import Derived.Test.YtmpjaakkjhmpmaaGreatDoorZRShortTimes14
import Derived.Test.YtmpjaakkjhmpmaaGreatDoorZRShortTimes23
import Derived.Test.YtmpjaakkjhmpmaaGreatDoorZRShortTimes31
namespace Go.Proofs.YtmpjaakkjhmpmaaGreatDoor
open Go Go.RowKit Go.Maps
end Go.Proofs.YtmpjaakkjhmpmaaGreatDoor
