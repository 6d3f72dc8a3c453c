/-
  WHAT IT HOLDS: contracts of table, put, fits, ValidBinds and Apply of package unify. Conditions: the arguments read as data; small signs.
  WHAT IT HOLDS: contract of ValidBinds of package unify. Conditions: the arguments read as data; a small sign.
-/
import Derived.Deep.RegionHeld3
import Derived.Test.YtmpjaakkjhmpmaaGreatDoorZRShortTrims0
import Derived.Test.YtmpjaakkjhmpmaaGreatDoorZRShortTrims16
namespace Go.Proofs.YtmpjaakkjhmpmaaGreatDoor
open Go Go.RowKit Go.Maps
end Go.Proofs.YtmpjaakkjhmpmaaGreatDoor
namespace Go.Proofs.YtmpjaakkjhmpmaaGreatDoor
open Go Go.RowKit Go.Maps
end Go.Proofs.YtmpjaakkjhmpmaaGreatDoor
