/-
  WHAT IT HOLDS: facts on the types of this translation, each reckoned by the kernel. No condition.
-/
import Derived.Test.YtiacbdipagbblaaProg
import Derived.Test.YtiacbdipagbblaaZRFindPermuted9
namespace Go.Proofs.Ytiacbdipagbblaa
open Go Go.RowKit Go.Maps
theorem el_int : ElemAt Try.prog 3 (.int .i64 0) 1 8 := by unfold ElemAt; kernel_rfl
theorem el_bool : ElemAt Try.prog 4 (.bool false) 1 1 := by unfold ElemAt; kernel_rfl
theorem el_term : ElemAt Try.prog 37 (.slice none 0 0) 1 24 := by unfold ElemAt; kernel_rfl
theorem el_ints : ElemAt Try.prog 25 (.slice none 0 0) 1 24 := by unfold ElemAt; kernel_rfl
theorem el_u8 : ElemAt Try.prog 5 (.int .u8 0) 1 1 := by unfold ElemAt; kernel_rfl
end Go.Proofs.Ytiacbdipagbblaa
