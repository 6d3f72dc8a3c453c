/-
  WHAT IT HOLDS: more facts on the types of this translation, each reckoned by the kernel. No condition.
-/
import Derived.Test.YtlbjbmpkaniojaaGreatProg
import Derived.Test.YtlbjbmpkaniojaaGreatZRBlameMerges0
namespace Go.Proofs.YtlbjbmpkaniojaaGreat
open Go Go.RowKit Go.Maps
theorem el_str : ElemAt Tryz.prog 9 (.string ⟨#[]⟩) 1 16 := by unfold ElemAt; kernel_rfl
theorem el_ent : ElemAt Tryz.prog 41 (.agg #[.string ⟨#[]⟩, .string ⟨#[]⟩, .slice none 0 0, .slice none 0 0, .slice none 0 0]) 5 104 := by unfold ElemAt; kernel_rfl
theorem el_step : ElemAt Tryz.prog 105 (.agg #[.int .i64 0, .int .i64 0, .int .i64 0]) 3 24 := by unfold ElemAt; kernel_rfl
end Go.Proofs.YtlbjbmpkaniojaaGreat
