/-
  WHAT IT HOLDS: contracts of matched, Match and Instance of the reference of layer 2. Conditions: the arguments read as data; whole terms stand at the indexes.
-/
import Derived.Lib.SliceRun
import Derived.Deep.RegionHeld3
import Derived.Test.YtmpjaakkjhmpmaaGreatDoorZRShortTrims12
import Derived.Test.YtmpjaakkjhmpmaaGreatDoorZRShortTrims8
import Derived.Test.YtmpjaakkjhmpmaaGreatDoorZRShortTrims2
namespace Go.Proofs.YtmpjaakkjhmpmaaGreatDoor
open Go Go.RowKit Go.Maps
theorem Fo.take {s : Sg} {q : Int} {zs : List (List Int)} (h : ∀ a ∈ zs, IsT s q a) (k : Nat) : Fo s q (zs.take k).length (zs.take k).flatten := ⟨_, rfl, rfl, fun a ha => h a (List.mem_of_mem_take ha)⟩
end Go.Proofs.YtmpjaakkjhmpmaaGreatDoor
