/-
  WHAT IT HOLDS: the shelf's contracts of the sorts of this program, laid by the kit's own tool (lay-plain). No condition.
-/
import Derived.Shelf.SlSortCmp.Whole1
import Derived.Ground.SlsfProg
import Derived.Test.YtmpjaakkjhmpmaaGreatDoorProg
namespace Go.Proofs
open Go.Shelf
end Go.Proofs
