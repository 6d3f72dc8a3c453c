/-
  WHAT IT HOLDS: contracts of named and apart of package unify, and of full of its solver. Conditions: the arguments read as data; numbers are small.
-/
import Derived.Test.YtiacbdipagbblaaZRFindParts31
import Derived.Test.YtiacbdipagbblaaZRFindParts15
namespace Go.Proofs.Ytiacbdipagbblaa
open Go Go.RowKit Go.Maps
end Go.Proofs.Ytiacbdipagbblaa
