/-
  WHAT IT HOLDS: more facts on the types of this translation, each reckoned by the kernel. No condition.
-/
import Derived.Test.YtmpjaakkjhmpmaaGreatDoorProg
import Derived.Test.YtmpjaakkjhmpmaaGreatDoorZRShortCites0
namespace Go.Proofs.YtmpjaakkjhmpmaaGreatDoor
open Go Go.RowKit Go.Maps
theorem el_str : ElemAt Tryz.prog 9 (.string ⟨#[]⟩) 1 16 := by unfold ElemAt; kernel_rfl
theorem el_step : ElemAt Tryz.prog 57 (.agg #[.int .i64 0, .int .i64 0, .int .i64 0]) 3 24 := by unfold ElemAt; kernel_rfl
end Go.Proofs.YtmpjaakkjhmpmaaGreatDoor
