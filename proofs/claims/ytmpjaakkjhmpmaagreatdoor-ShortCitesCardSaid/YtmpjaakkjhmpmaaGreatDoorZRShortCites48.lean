/-
  WHAT IT HOLDS: closed facts of the program that every row asks, each in a proof of its own (all at once would need too much memory). No condition.
-/
import Derived.Test.YtmpjaakkjhmpmaaGreatDoorChecked
import Derived.ProofKit
import Derived.JoinedOf
namespace Go.Proofs.YtmpjaakkjhmpmaaGreatDoor
theorem jf_laid : laidOutB Tryz.checked.prog = true := by kernel_rfl
theorem jf_maps : mapsRowed Tryz.checked.prog = true := by kernel_rfl
theorem jf_heard : Tryz.checked.prog.stopsHeard = true := by kernel_rfl
theorem jf_enter : Tryz.checked.prog.mayEnter = true := by kernel_rfl
end Go.Proofs.YtmpjaakkjhmpmaaGreatDoor
