/-
  WHAT IT HOLDS: the contract of the step of package unify's join that names a pair of parts (in its closure). Conditions: the arguments read as data; the parts are terms; at most 500 pairs are named.
-/
import Derived.DeepKeys4
import Derived.StillTailTactics
import Derived.Laws.EntriesVeiled
import Derived.Test.YtmpjaakkjhmpmaaGreatDoorZRShortCites7
import Derived.Test.YtmpjaakkjhmpmaaGreatDoorZRShortCites6
namespace Go.Proofs.YtmpjaakkjhmpmaaGreatDoor
open Go Go.RowKit Go.Maps
theorem zero_int (w : World) : (zeroValue 3).run Tryz.prog w = .ok (.int .i64 0) w := by kernel_rfl
end Go.Proofs.YtmpjaakkjhmpmaaGreatDoor
