/-
  No cell of these rows narrows 'for every input' (looked for: loops, veiled, ifaces, maps, wideKeys, modest, calm, conditions, laid).
  DERIVED. THE GIVEN ROWS OF THIS SEAT. 10 by the template 'for every input the law returns true; each argument reads behind the call as it read before'; 0 by the template 'total and deterministic' (their statements: YtiacbdipagbblaaTotals.lean).
  GIVEN WITH THE SEED: the statements are not yours to turn. If you find one false, say at which input.
  Laid BY PROGRAM, IN A SANDBOX (cutbox-rows.mjs): the forced cells as the released guide's own fill.sh prints them over the translation a77832a5f38e0cb0… (all of the seat's roots in one cut). By AI agents, Wed Nov 11 2026. No macro, syntax, notation, axiom, sorry.
-/
import Derived.Test.YtiacbdipagbblaaChecked
import GoSem.Claim
import GoSem.ClaimJoined
import GoSem.ClaimMapViews
import Derived.JoinedTies
import Derived.KernelRfl
namespace Go.Proofs.Ytiacbdipagbblaa
/- THE CELL 'sum', in the pinned program and in every row, IS THE sha256 OF THE DUMP (.gsa) THAT YtiacbdipagbblaaProg.lean LOADS. Nothing in Lean hashes anything: it is a label: what it is worth is what the hold of that sum in a sandbox is worth. -/
noncomputable def Try.pinned : Pinned := { name := "ytiacbdipagbblaa", sum := "a77832a5f38e0cb062ca94a589ed1b4317d9b8f441c2f473b94eb687d5684651", checked := Try.checked }
namespace Rows
def none {H : Type} : Left H := { results := [], args := [] }

/-- 'lemmarylaw05.FindWith': WHATEVER THE INPUT: true; the input reads as it did. -/
def findWithSpec : ChangeSpec := { name := "findWith", fn := fun _ => fun
  | [d1, d2, d3] => { results := [.lit (.bool true)], args := [d1, d2, d3] }
  | _ => none }
def findWithRow : OpenClaim := { program := "ytiacbdipagbblaa", sum := "a77832a5f38e0cb062ca94a589ed1b4317d9b8f441c2f473b94eb687d5684651", func := "lemmary/lemmarylaw05.FindWith", spec := "findWith", unfollowed := true, recurses := true, plainKeys := false, apart := false }
def FindWithSaid : Prop := findWithRow.holds Try.pinned (OpenSpec.ofChange findWithSpec)

/-- ITS FALSE NEIGHBOUR: 'it returns false'. Refute it at one input. -/
def findWithWrong : ChangeSpec := { name := "findWith", fn := fun _ => fun
  | [d1, d2, d3] => { results := [.lit (.bool false)], args := [d1, d2, d3] }
  | _ => none }
def FindWithWrongFalsely : Prop := findWithRow.holds Try.pinned (OpenSpec.ofChange findWithWrong)

/-- 'lemmarylaw05.FindPermuted': WHATEVER THE INPUT: true; the input reads as it did. -/
def findPermutedSpec : ChangeSpec := { name := "findPermuted", fn := fun _ => fun
  | [d1, d2, d3] => { results := [.lit (.bool true)], args := [d1, d2, d3] }
  | _ => none }
def findPermutedRow : OpenClaim := { program := "ytiacbdipagbblaa", sum := "a77832a5f38e0cb062ca94a589ed1b4317d9b8f441c2f473b94eb687d5684651", func := "lemmary/lemmarylaw05.FindPermuted", spec := "findPermuted", unfollowed := true, recurses := true, plainKeys := false, apart := false }
def FindPermutedSaid : Prop := findPermutedRow.holds Try.pinned (OpenSpec.ofChange findPermutedSpec)

/-- ITS FALSE NEIGHBOUR: 'it returns false'. Refute it at one input. -/
def findPermutedWrong : ChangeSpec := { name := "findPermuted", fn := fun _ => fun
  | [d1, d2, d3] => { results := [.lit (.bool false)], args := [d1, d2, d3] }
  | _ => none }
def FindPermutedWrongFalsely : Prop := findPermutedRow.holds Try.pinned (OpenSpec.ofChange findPermutedWrong)

/-- 'lemmarylaw05.FindParts': WHATEVER THE INPUT: true; the input reads as it did. -/
def findPartsSpec : ChangeSpec := { name := "findParts", fn := fun _ => fun
  | [d1, d2, d3] => { results := [.lit (.bool true)], args := [d1, d2, d3] }
  | _ => none }
def findPartsRow : OpenClaim := { program := "ytiacbdipagbblaa", sum := "a77832a5f38e0cb062ca94a589ed1b4317d9b8f441c2f473b94eb687d5684651", func := "lemmary/lemmarylaw05.FindParts", spec := "findParts", unfollowed := true, recurses := true, plainKeys := false, apart := false }
def FindPartsSaid : Prop := findPartsRow.holds Try.pinned (OpenSpec.ofChange findPartsSpec)

/-- ITS FALSE NEIGHBOUR: 'it returns false'. Refute it at one input. -/
def findPartsWrong : ChangeSpec := { name := "findParts", fn := fun _ => fun
  | [d1, d2, d3] => { results := [.lit (.bool false)], args := [d1, d2, d3] }
  | _ => none }
def FindPartsWrongFalsely : Prop := findPartsRow.holds Try.pinned (OpenSpec.ofChange findPartsWrong)

/-- 'lemmarylaw05.FindOver': WHATEVER THE INPUT: true; the input reads as it did. -/
def findOverSpec : ChangeSpec := { name := "findOver", fn := fun _ => fun
  | [d1, d2, d3] => { results := [.lit (.bool true)], args := [d1, d2, d3] }
  | _ => none }
def findOverRow : OpenClaim := { program := "ytiacbdipagbblaa", sum := "a77832a5f38e0cb062ca94a589ed1b4317d9b8f441c2f473b94eb687d5684651", func := "lemmary/lemmarylaw05.FindOver", spec := "findOver", unfollowed := true, recurses := true, plainKeys := false, apart := false }
def FindOverSaid : Prop := findOverRow.holds Try.pinned (OpenSpec.ofChange findOverSpec)

/-- ITS FALSE NEIGHBOUR: 'it returns false'. Refute it at one input. -/
def findOverWrong : ChangeSpec := { name := "findOver", fn := fun _ => fun
  | [d1, d2, d3] => { results := [.lit (.bool false)], args := [d1, d2, d3] }
  | _ => none }
def FindOverWrongFalsely : Prop := findOverRow.holds Try.pinned (OpenSpec.ofChange findOverWrong)

/-- 'lemmarylaw05.FindBases': WHATEVER THE INPUT: true; the input reads as it did. -/
def findBasesSpec : ChangeSpec := { name := "findBases", fn := fun _ => fun
  | [d1, d2, d3] => { results := [.lit (.bool true)], args := [d1, d2, d3] }
  | _ => none }
def findBasesRow : OpenClaim := { program := "ytiacbdipagbblaa", sum := "a77832a5f38e0cb062ca94a589ed1b4317d9b8f441c2f473b94eb687d5684651", func := "lemmary/lemmarylaw05.FindBases", spec := "findBases", unfollowed := true, recurses := true, plainKeys := false, apart := false }
def FindBasesSaid : Prop := findBasesRow.holds Try.pinned (OpenSpec.ofChange findBasesSpec)

/-- ITS FALSE NEIGHBOUR: 'it returns false'. Refute it at one input. -/
def findBasesWrong : ChangeSpec := { name := "findBases", fn := fun _ => fun
  | [d1, d2, d3] => { results := [.lit (.bool false)], args := [d1, d2, d3] }
  | _ => none }
def FindBasesWrongFalsely : Prop := findBasesRow.holds Try.pinned (OpenSpec.ofChange findBasesWrong)

/-- 'lemmarylaw05.FindSearches': WHATEVER THE INPUT: true; the input reads as it did. -/
def findSearchesSpec : ChangeSpec := { name := "findSearches", fn := fun _ => fun
  | [d1, d2, d3] => { results := [.lit (.bool true)], args := [d1, d2, d3] }
  | _ => none }
def findSearchesRow : OpenClaim := { program := "ytiacbdipagbblaa", sum := "a77832a5f38e0cb062ca94a589ed1b4317d9b8f441c2f473b94eb687d5684651", func := "lemmary/lemmarylaw05.FindSearches", spec := "findSearches", unfollowed := true, recurses := true, plainKeys := false, apart := false }
def FindSearchesSaid : Prop := findSearchesRow.holds Try.pinned (OpenSpec.ofChange findSearchesSpec)

/-- ITS FALSE NEIGHBOUR: 'it returns false'. Refute it at one input. -/
def findSearchesWrong : ChangeSpec := { name := "findSearches", fn := fun _ => fun
  | [d1, d2, d3] => { results := [.lit (.bool false)], args := [d1, d2, d3] }
  | _ => none }
def FindSearchesWrongFalsely : Prop := findSearchesRow.holds Try.pinned (OpenSpec.ofChange findSearchesWrong)

/-- 'lemmarylaw05.FindWithin': WHATEVER THE INPUT: true; the input reads as it did. -/
def findWithinSpec : ChangeSpec := { name := "findWithin", fn := fun _ => fun
  | [d1, d2, d3] => { results := [.lit (.bool true)], args := [d1, d2, d3] }
  | _ => none }
def findWithinRow : OpenClaim := { program := "ytiacbdipagbblaa", sum := "a77832a5f38e0cb062ca94a589ed1b4317d9b8f441c2f473b94eb687d5684651", func := "lemmary/lemmarylaw05.FindWithin", spec := "findWithin", unfollowed := true, recurses := true, plainKeys := false, apart := false }
def FindWithinSaid : Prop := findWithinRow.holds Try.pinned (OpenSpec.ofChange findWithinSpec)

/-- ITS FALSE NEIGHBOUR: 'it returns false'. Refute it at one input. -/
def findWithinWrong : ChangeSpec := { name := "findWithin", fn := fun _ => fun
  | [d1, d2, d3] => { results := [.lit (.bool false)], args := [d1, d2, d3] }
  | _ => none }
def FindWithinWrongFalsely : Prop := findWithinRow.holds Try.pinned (OpenSpec.ofChange findWithinWrong)

/-- 'lemmarylaw05.FindRanks': WHATEVER THE INPUT: true; the input reads as it did. -/
def findRanksSpec : ChangeSpec := { name := "findRanks", fn := fun _ => fun
  | [d1, d2, d3] => { results := [.lit (.bool true)], args := [d1, d2, d3] }
  | _ => none }
def findRanksRow : OpenClaim := { program := "ytiacbdipagbblaa", sum := "a77832a5f38e0cb062ca94a589ed1b4317d9b8f441c2f473b94eb687d5684651", func := "lemmary/lemmarylaw05.FindRanks", spec := "findRanks", unfollowed := true, recurses := true, plainKeys := false, apart := false }
def FindRanksSaid : Prop := findRanksRow.holds Try.pinned (OpenSpec.ofChange findRanksSpec)

/-- ITS FALSE NEIGHBOUR: 'it returns false'. Refute it at one input. -/
def findRanksWrong : ChangeSpec := { name := "findRanks", fn := fun _ => fun
  | [d1, d2, d3] => { results := [.lit (.bool false)], args := [d1, d2, d3] }
  | _ => none }
def FindRanksWrongFalsely : Prop := findRanksRow.holds Try.pinned (OpenSpec.ofChange findRanksWrong)

/-- 'lemmarylaw05.FindOwn': WHATEVER THE INPUT: true; the input reads as it did. -/
def findOwnSpec : ChangeSpec := { name := "findOwn", fn := fun _ => fun
  | [d1, d2, d3] => { results := [.lit (.bool true)], args := [d1, d2, d3] }
  | _ => none }
def findOwnRow : OpenClaim := { program := "ytiacbdipagbblaa", sum := "a77832a5f38e0cb062ca94a589ed1b4317d9b8f441c2f473b94eb687d5684651", func := "lemmary/lemmarylaw05.FindOwn", spec := "findOwn", unfollowed := true, recurses := true, plainKeys := false, apart := false }
def FindOwnSaid : Prop := findOwnRow.holds Try.pinned (OpenSpec.ofChange findOwnSpec)

/-- ITS FALSE NEIGHBOUR: 'it returns false'. Refute it at one input. -/
def findOwnWrong : ChangeSpec := { name := "findOwn", fn := fun _ => fun
  | [d1, d2, d3] => { results := [.lit (.bool false)], args := [d1, d2, d3] }
  | _ => none }
def FindOwnWrongFalsely : Prop := findOwnRow.holds Try.pinned (OpenSpec.ofChange findOwnWrong)

/-- 'lemmarylaw05.FindGroups': WHATEVER THE INPUT: true; the input reads as it did. -/
def findGroupsSpec : ChangeSpec := { name := "findGroups", fn := fun _ => fun
  | [d1, d2] => { results := [.lit (.bool true)], args := [d1, d2] }
  | _ => none }
def findGroupsRow : OpenClaim := { program := "ytiacbdipagbblaa", sum := "a77832a5f38e0cb062ca94a589ed1b4317d9b8f441c2f473b94eb687d5684651", func := "lemmary/lemmarylaw05.FindGroups", spec := "findGroups", unfollowed := true, recurses := true, plainKeys := false, apart := false }
def FindGroupsSaid : Prop := findGroupsRow.holds Try.pinned (OpenSpec.ofChange findGroupsSpec)

/-- ITS FALSE NEIGHBOUR: 'it returns false'. Refute it at one input. -/
def findGroupsWrong : ChangeSpec := { name := "findGroups", fn := fun _ => fun
  | [d1, d2] => { results := [.lit (.bool false)], args := [d1, d2] }
  | _ => none }
def FindGroupsWrongFalsely : Prop := findGroupsRow.holds Try.pinned (OpenSpec.ofChange findGroupsWrong)

/- THE SECOND FORM. 'bulk': how many values and letters a reading holds, each counted each time it is reached (what is shared counts as often as it is met; a slice's spare places count too). A statement '..UptoSaid' is the law's where the arguments, and the package variables that the reading takes, are together of bulk at most 1048576: NARROWER than '..Said'. Prove '..Said' where nothing that the law and all that it calls make is longer than what came in: it says more and counts as full. Else prove '..UptoSaid'. A law counts once. -/
mutual
def uptoBulk {H : Type} : DataW H → Nat
  | .lit (.string bytes) => bytes.length + 1
  | .lit _ => 1
  | .nil => 1
  | .ptr d => uptoBulk d + 1
  | .slice elems spare => uptoBulkAll elems + uptoBulkAll spare + 1
  | .agg parts => uptoBulkAll parts + 1
  | .iface _ d => uptoBulk d + 1
  | .map entries => uptoBulkEntries entries + 1
  | .held _ => 1
def uptoBulkAll {H : Type} : List (DataW H) → Nat
  | [] => 0
  | d :: r => uptoBulk d + uptoBulkAll r
def uptoBulkEntries {H : Type} : List (Lit × DataW H) → Nat
  | [] => 0
  | x :: r => uptoBulkEntry x + uptoBulkEntries r
def uptoBulkEntry {H : Type} : Lit × DataW H → Nat
  | (.string bytes, d) => bytes.length + uptoBulk d + 1
  | (_, d) => uptoBulk d + 1
 end
def uptoSmall : (H : Type) → List (DataW H) → Bool := fun _ ds => decide (uptoBulkAll ds ≤ 1048576)
def OpenSpec.upto (s : _root_.Go.ChangeSpec) : _root_.Go.OpenSpec := { _root_.Go.OpenSpec.ofChange s with cond := some uptoSmall }

/-- 'lemmarylaw05.FindWith', WHERE WHAT IT READS IS OF BULK AT MOST 1048576: true; the input reads as it did. -/
def findWithUptoRow : OpenClaim := { program := "ytiacbdipagbblaa", sum := "a77832a5f38e0cb062ca94a589ed1b4317d9b8f441c2f473b94eb687d5684651", func := "lemmary/lemmarylaw05.FindWith", spec := "findWith", unfollowed := true, recurses := true, plainKeys := false, apart := false, narrowed := true }
def FindWithUptoSaid : Prop := findWithUptoRow.holds Try.pinned (OpenSpec.upto findWithSpec)

/-- 'lemmarylaw05.FindPermuted', WHERE WHAT IT READS IS OF BULK AT MOST 1048576: true; the input reads as it did. -/
def findPermutedUptoRow : OpenClaim := { program := "ytiacbdipagbblaa", sum := "a77832a5f38e0cb062ca94a589ed1b4317d9b8f441c2f473b94eb687d5684651", func := "lemmary/lemmarylaw05.FindPermuted", spec := "findPermuted", unfollowed := true, recurses := true, plainKeys := false, apart := false, narrowed := true }
def FindPermutedUptoSaid : Prop := findPermutedUptoRow.holds Try.pinned (OpenSpec.upto findPermutedSpec)

/-- 'lemmarylaw05.FindParts', WHERE WHAT IT READS IS OF BULK AT MOST 1048576: true; the input reads as it did. -/
def findPartsUptoRow : OpenClaim := { program := "ytiacbdipagbblaa", sum := "a77832a5f38e0cb062ca94a589ed1b4317d9b8f441c2f473b94eb687d5684651", func := "lemmary/lemmarylaw05.FindParts", spec := "findParts", unfollowed := true, recurses := true, plainKeys := false, apart := false, narrowed := true }
def FindPartsUptoSaid : Prop := findPartsUptoRow.holds Try.pinned (OpenSpec.upto findPartsSpec)

/-- 'lemmarylaw05.FindOver', WHERE WHAT IT READS IS OF BULK AT MOST 1048576: true; the input reads as it did. -/
def findOverUptoRow : OpenClaim := { program := "ytiacbdipagbblaa", sum := "a77832a5f38e0cb062ca94a589ed1b4317d9b8f441c2f473b94eb687d5684651", func := "lemmary/lemmarylaw05.FindOver", spec := "findOver", unfollowed := true, recurses := true, plainKeys := false, apart := false, narrowed := true }
def FindOverUptoSaid : Prop := findOverUptoRow.holds Try.pinned (OpenSpec.upto findOverSpec)

/-- 'lemmarylaw05.FindBases', WHERE WHAT IT READS IS OF BULK AT MOST 1048576: true; the input reads as it did. -/
def findBasesUptoRow : OpenClaim := { program := "ytiacbdipagbblaa", sum := "a77832a5f38e0cb062ca94a589ed1b4317d9b8f441c2f473b94eb687d5684651", func := "lemmary/lemmarylaw05.FindBases", spec := "findBases", unfollowed := true, recurses := true, plainKeys := false, apart := false, narrowed := true }
def FindBasesUptoSaid : Prop := findBasesUptoRow.holds Try.pinned (OpenSpec.upto findBasesSpec)

/-- 'lemmarylaw05.FindSearches', WHERE WHAT IT READS IS OF BULK AT MOST 1048576: true; the input reads as it did. -/
def findSearchesUptoRow : OpenClaim := { program := "ytiacbdipagbblaa", sum := "a77832a5f38e0cb062ca94a589ed1b4317d9b8f441c2f473b94eb687d5684651", func := "lemmary/lemmarylaw05.FindSearches", spec := "findSearches", unfollowed := true, recurses := true, plainKeys := false, apart := false, narrowed := true }
def FindSearchesUptoSaid : Prop := findSearchesUptoRow.holds Try.pinned (OpenSpec.upto findSearchesSpec)

/-- 'lemmarylaw05.FindWithin', WHERE WHAT IT READS IS OF BULK AT MOST 1048576: true; the input reads as it did. -/
def findWithinUptoRow : OpenClaim := { program := "ytiacbdipagbblaa", sum := "a77832a5f38e0cb062ca94a589ed1b4317d9b8f441c2f473b94eb687d5684651", func := "lemmary/lemmarylaw05.FindWithin", spec := "findWithin", unfollowed := true, recurses := true, plainKeys := false, apart := false, narrowed := true }
def FindWithinUptoSaid : Prop := findWithinUptoRow.holds Try.pinned (OpenSpec.upto findWithinSpec)

/-- 'lemmarylaw05.FindRanks', WHERE WHAT IT READS IS OF BULK AT MOST 1048576: true; the input reads as it did. -/
def findRanksUptoRow : OpenClaim := { program := "ytiacbdipagbblaa", sum := "a77832a5f38e0cb062ca94a589ed1b4317d9b8f441c2f473b94eb687d5684651", func := "lemmary/lemmarylaw05.FindRanks", spec := "findRanks", unfollowed := true, recurses := true, plainKeys := false, apart := false, narrowed := true }
def FindRanksUptoSaid : Prop := findRanksUptoRow.holds Try.pinned (OpenSpec.upto findRanksSpec)

/-- 'lemmarylaw05.FindOwn', WHERE WHAT IT READS IS OF BULK AT MOST 1048576: true; the input reads as it did. -/
def findOwnUptoRow : OpenClaim := { program := "ytiacbdipagbblaa", sum := "a77832a5f38e0cb062ca94a589ed1b4317d9b8f441c2f473b94eb687d5684651", func := "lemmary/lemmarylaw05.FindOwn", spec := "findOwn", unfollowed := true, recurses := true, plainKeys := false, apart := false, narrowed := true }
def FindOwnUptoSaid : Prop := findOwnUptoRow.holds Try.pinned (OpenSpec.upto findOwnSpec)

/-- 'lemmarylaw05.FindGroups', WHERE WHAT IT READS IS OF BULK AT MOST 1048576: true; the input reads as it did. -/
def findGroupsUptoRow : OpenClaim := { program := "ytiacbdipagbblaa", sum := "a77832a5f38e0cb062ca94a589ed1b4317d9b8f441c2f473b94eb687d5684651", func := "lemmary/lemmarylaw05.FindGroups", spec := "findGroups", unfollowed := true, recurses := true, plainKeys := false, apart := false, narrowed := true }
def FindGroupsUptoSaid : Prop := findGroupsUptoRow.holds Try.pinned (OpenSpec.upto findGroupsSpec)

end Rows
end Go.Proofs.Ytiacbdipagbblaa
