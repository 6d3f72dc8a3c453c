/-
  WHAT IT HOLDS: contracts of named and apart of package unify, and of full of its solver. Conditions: the arguments read as data; numbers are small.
-/
import Derived.Test.YtiacbdipagbblaaZRFindOwn40
import Derived.Test.YtiacbdipagbblaaZRFindOwn22
namespace Go.Proofs.Ytiacbdipagbblaa
open Go Go.RowKit Go.Maps
end Go.Proofs.Ytiacbdipagbblaa
