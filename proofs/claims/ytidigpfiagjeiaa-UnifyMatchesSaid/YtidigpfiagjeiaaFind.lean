/-
  WHAT IT HOLDS: contracts of functions of package find: within, Valid, search. Conditions: the arguments read as data; at most 1000 names and terms; a function value that is handed in says what p says and leaves what was there.
-/
import Derived.Test.YtidigpfiagjeiaaLib
import Derived.Test.YtidigpfiagjeiaaTermc
import Derived.Test.YtidigpfiagjeiaaPure2
namespace Go.Proofs.Ytidigpfiagjeiaa
open Go Go.RowKit Go.Maps
theorem term_Valid' (v vt : Value) (s : Sg) (t : List Int) (w : World) (hs : SignAt w v s) (ht : Ints w vt t) (hs1 : s.length ≤ 1000) :
    Calls Try.prog 21 #[v, vt] w fun e w' => e = .returned (.bool (termB s t)) ∧ Below w.heap.size w w' := term_Valid v vt s t w hs ht hs1 end_need
end Go.Proofs.Ytidigpfiagjeiaa
