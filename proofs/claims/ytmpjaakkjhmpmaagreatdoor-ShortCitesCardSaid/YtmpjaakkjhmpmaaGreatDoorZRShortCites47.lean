/-
  WHAT IT HOLDS: the three tables of the library that the rows of layer 7 list: a world in which they stand, and that the table of powers of ten stands wherever the list is met. No condition.
-/
import Derived.Test.YtmpjaakkjhmpmaaGreatDoorRows
import Derived.Lib.LaidTab
import Derived.Stop.LaidErr
import Derived.MakeChecks
import Derived.Handed
import Derived.ProofKit
import Derived.Test.YtmpjaakkjhmpmaaGreatDoorZRShortCites43
namespace Go.Proofs.YtmpjaakkjhmpmaaGreatDoor
open Go Go.RowKit
theorem own7 : ownKnob Tryz.prog.godebug = none := by kernel_rfl
def laid7 : List (String × DataW Unit) := [("math/bits.deBruijn32tab", Rows.laid_math_bits_deBruijn32tab), ("math/bits.deBruijn64tab", Rows.laid_math_bits_deBruijn64tab), ("internal/strconv.uint64pow10", Rows.laid_internal_strconv_uint64pow10)]
/-- the integers of a table. -/
def lits7 : DataW Unit → List Value
  | .agg l => l.filterMap fun d => match d with | .lit (.int k z) => some (.int k z) | _ => none
  | _ => []
noncomputable def put7 (d : DataW Unit) (o : Obj) : Obj := match o with
  | .cells _ t frozen => .cells (lits7 d).toArray t frozen
  | o => o
/-- the settled world, the tables laid. -/
noncomputable def laidWorld7 (os : Os) : World :=
  let w0 := World.holding Tryz.prog os ⟨#[], #[], []⟩
  { w0 with heap := ((w0.heap.modify 0 (put7 Rows.laid_internal_strconv_uint64pow10)).modify 2 (put7 Rows.laid_math_bits_deBruijn32tab)).modify 3 (put7 Rows.laid_math_bits_deBruijn64tab) }
theorem laid_plain7 : (laid7.all fun x => x.2.handleName?.isNone) = true := by kernel_rfl
theorem laid_met7 (os : Os) (args : Array Value) : laidMetH Tryz.prog laid7 ((laidWorld7 os).forCall (fun _ _ => 0) ⟨#[], args, []⟩).memory := by
  rw [MakeChecks.laidMetH_plain _ _ _ laid_plain7]
  exact laidMet_of_run' 8 (by kernel_rfl) (by kernel_rfl)
theorem tab7 {W : World} (h : laidMetH Tryz.prog laid7 W) : Tab W := by
  rw [MakeChecks.laidMetH_plain _ _ _ laid_plain7] at h
  have h2 := h.tail.tail
  have e : (Rows.laid_internal_strconv_uint64pow10 : DataW Unit) = Lib.tabData .u64 Lib.pow10Tab := by kernel_rfl
  rw [e] at h2
  exact Lib.tabIs_of_head (g := 0) (by kernel_rfl) (by kernel_rfl) Tryz.underlying222 Tryz.underlying190 (by kernel_rfl) (by kernel_rfl) h2
end Go.Proofs.YtmpjaakkjhmpmaaGreatDoor
