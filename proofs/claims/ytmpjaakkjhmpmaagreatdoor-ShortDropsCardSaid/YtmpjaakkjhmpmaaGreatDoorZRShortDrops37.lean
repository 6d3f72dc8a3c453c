/-
  WHAT IT HOLDS: contract of Sorted of the reference of layer 6. Conditions: the argument reads as a list of names.
-/
import Derived.Laws.CopyOwn
import Derived.Deep.RegionLaw
import Derived.Sort.Walk0
import Derived.Test.YtmpjaakkjhmpmaaGreatDoorZRShortDrops31
import Derived.Test.YtmpjaakkjhmpmaaGreatDoorZRShortDrops25
import Derived.Test.YtmpjaakkjhmpmaaGreatDoorZRShortDrops14
import Derived.Test.YtmpjaakkjhmpmaaGreatDoorZRShortDrops24
import Derived.Test.YtmpjaakkjhmpmaaGreatDoorZRShortDrops32
namespace Go.Proofs.YtmpjaakkjhmpmaaGreatDoor
open Go Go.RowKit Go.Maps
end Go.Proofs.YtmpjaakkjhmpmaaGreatDoor
