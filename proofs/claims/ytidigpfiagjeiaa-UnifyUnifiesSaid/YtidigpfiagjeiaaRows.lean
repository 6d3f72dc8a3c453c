/-
  No cell of these rows narrows 'for every input' (looked for: loops, veiled, ifaces, maps, wideKeys, modest, calm, conditions, laid).
  DERIVED. THE GIVEN ROWS OF THIS SEAT. 12 by the template 'for every input the law returns true; each argument reads behind the call as it read before'; 0 by the template 'total and deterministic' (their statements: YtidigpfiagjeiaaTotals.lean).
  GIVEN WITH THE SEED: the statements are not yours to turn. If you find one false, say at which input.
  Laid BY PROGRAM, IN A SANDBOX (cutbox-rows.mjs): the forced cells as the released guide's own fill.sh prints them over the translation f52024dc4b2521e3… (all of the seat's roots in one cut). By AI agents, Wed Nov 11 2026. No macro, syntax, notation, axiom, sorry.
-/
import Derived.Test.YtidigpfiagjeiaaChecked
import GoSem.Claim
import GoSem.ClaimJoined
import GoSem.ClaimMapViews
import Derived.JoinedTies
import Derived.KernelRfl
namespace Go.Proofs.Ytidigpfiagjeiaa
/- THE CELL 'sum', in the pinned program and in every row, IS THE sha256 OF THE DUMP (.gsa) THAT YtidigpfiagjeiaaProg.lean LOADS. Nothing in Lean hashes anything: it is a label: what it is worth is what the hold of that sum in a sandbox is worth. -/
noncomputable def Try.pinned : Pinned := { name := "ytidigpfiagjeiaa", sum := "f52024dc4b2521e346bb7992da44bcd0a4139223db505b31113e5ac51e5dd01e", checked := Try.checked }
namespace Rows
def none {H : Type} : Left H := { results := [], args := [] }

/-- 'lemmarylaw02.UnifyBounds': WHATEVER THE INPUT: true; the input reads as it did. -/
def unifyBoundsSpec : ChangeSpec := { name := "unifyBounds", fn := fun _ => fun
  | [d1, d2] => { results := [.lit (.bool true)], args := [d1, d2] }
  | _ => none }
def unifyBoundsRow : OpenClaim := { program := "ytidigpfiagjeiaa", sum := "f52024dc4b2521e346bb7992da44bcd0a4139223db505b31113e5ac51e5dd01e", func := "lemmary/lemmarylaw02.UnifyBounds", spec := "unifyBounds", unfollowed := true, recurses := true, plainKeys := false, apart := false }
def UnifyBoundsSaid : Prop := unifyBoundsRow.holds Try.pinned (OpenSpec.ofChange unifyBoundsSpec)

/-- ITS FALSE NEIGHBOUR: 'it returns false'. Refute it at one input. -/
def unifyBoundsWrong : ChangeSpec := { name := "unifyBounds", fn := fun _ => fun
  | [d1, d2] => { results := [.lit (.bool false)], args := [d1, d2] }
  | _ => none }
def UnifyBoundsWrongFalsely : Prop := unifyBoundsRow.holds Try.pinned (OpenSpec.ofChange unifyBoundsWrong)

/-- 'lemmarylaw02.UnifyOrders': WHATEVER THE INPUT: true; the input reads as it did. -/
def unifyOrdersSpec : ChangeSpec := { name := "unifyOrders", fn := fun _ => fun
  | [d1, d2] => { results := [.lit (.bool true)], args := [d1, d2] }
  | _ => none }
def unifyOrdersRow : OpenClaim := { program := "ytidigpfiagjeiaa", sum := "f52024dc4b2521e346bb7992da44bcd0a4139223db505b31113e5ac51e5dd01e", func := "lemmary/lemmarylaw02.UnifyOrders", spec := "unifyOrders", unfollowed := true, recurses := true, plainKeys := false, apart := false }
def UnifyOrdersSaid : Prop := unifyOrdersRow.holds Try.pinned (OpenSpec.ofChange unifyOrdersSpec)

/-- ITS FALSE NEIGHBOUR: 'it returns false'. Refute it at one input. -/
def unifyOrdersWrong : ChangeSpec := { name := "unifyOrders", fn := fun _ => fun
  | [d1, d2] => { results := [.lit (.bool false)], args := [d1, d2] }
  | _ => none }
def UnifyOrdersWrongFalsely : Prop := unifyOrdersRow.holds Try.pinned (OpenSpec.ofChange unifyOrdersWrong)

/-- 'lemmarylaw02.UnifyJoins': WHATEVER THE INPUT: true; the input reads as it did. -/
def unifyJoinsSpec : ChangeSpec := { name := "unifyJoins", fn := fun _ => fun
  | [d1, d2, d3] => { results := [.lit (.bool true)], args := [d1, d2, d3] }
  | _ => none }
def unifyJoinsRow : OpenClaim := { program := "ytidigpfiagjeiaa", sum := "f52024dc4b2521e346bb7992da44bcd0a4139223db505b31113e5ac51e5dd01e", func := "lemmary/lemmarylaw02.UnifyJoins", spec := "unifyJoins", unfollowed := true, recurses := true, plainKeys := false, apart := false }
def UnifyJoinsSaid : Prop := unifyJoinsRow.holds Try.pinned (OpenSpec.ofChange unifyJoinsSpec)

/-- ITS FALSE NEIGHBOUR: 'it returns false'. Refute it at one input. -/
def unifyJoinsWrong : ChangeSpec := { name := "unifyJoins", fn := fun _ => fun
  | [d1, d2, d3] => { results := [.lit (.bool false)], args := [d1, d2, d3] }
  | _ => none }
def UnifyJoinsWrongFalsely : Prop := unifyJoinsRow.holds Try.pinned (OpenSpec.ofChange unifyJoinsWrong)

/-- 'lemmarylaw02.UnifyMeets': WHATEVER THE INPUT: true; the input reads as it did. -/
def unifyMeetsSpec : ChangeSpec := { name := "unifyMeets", fn := fun _ => fun
  | [d1, d2, d3] => { results := [.lit (.bool true)], args := [d1, d2, d3] }
  | _ => none }
def unifyMeetsRow : OpenClaim := { program := "ytidigpfiagjeiaa", sum := "f52024dc4b2521e346bb7992da44bcd0a4139223db505b31113e5ac51e5dd01e", func := "lemmary/lemmarylaw02.UnifyMeets", spec := "unifyMeets", unfollowed := true, recurses := true, plainKeys := false, apart := false }
def UnifyMeetsSaid : Prop := unifyMeetsRow.holds Try.pinned (OpenSpec.ofChange unifyMeetsSpec)

/-- ITS FALSE NEIGHBOUR: 'it returns false'. Refute it at one input. -/
def unifyMeetsWrong : ChangeSpec := { name := "unifyMeets", fn := fun _ => fun
  | [d1, d2, d3] => { results := [.lit (.bool false)], args := [d1, d2, d3] }
  | _ => none }
def UnifyMeetsWrongFalsely : Prop := unifyMeetsRow.holds Try.pinned (OpenSpec.ofChange unifyMeetsWrong)

/-- 'lemmarylaw02.UnifyLists': WHATEVER THE INPUT: true; the input reads as it did. -/
def unifyListsSpec : ChangeSpec := { name := "unifyLists", fn := fun _ => fun
  | [d1, d2, d3] => { results := [.lit (.bool true)], args := [d1, d2, d3] }
  | _ => none }
def unifyListsRow : OpenClaim := { program := "ytidigpfiagjeiaa", sum := "f52024dc4b2521e346bb7992da44bcd0a4139223db505b31113e5ac51e5dd01e", func := "lemmary/lemmarylaw02.UnifyLists", spec := "unifyLists", unfollowed := true, recurses := true, plainKeys := false, apart := false }
def UnifyListsSaid : Prop := unifyListsRow.holds Try.pinned (OpenSpec.ofChange unifyListsSpec)

/-- ITS FALSE NEIGHBOUR: 'it returns false'. Refute it at one input. -/
def unifyListsWrong : ChangeSpec := { name := "unifyLists", fn := fun _ => fun
  | [d1, d2, d3] => { results := [.lit (.bool false)], args := [d1, d2, d3] }
  | _ => none }
def UnifyListsWrongFalsely : Prop := unifyListsRow.holds Try.pinned (OpenSpec.ofChange unifyListsWrong)

/-- 'lemmarylaw02.UnifyApplies': WHATEVER THE INPUT: true; the input reads as it did. -/
def unifyAppliesSpec : ChangeSpec := { name := "unifyApplies", fn := fun _ => fun
  | [d1, d2, d3] => { results := [.lit (.bool true)], args := [d1, d2, d3] }
  | _ => none }
def unifyAppliesRow : OpenClaim := { program := "ytidigpfiagjeiaa", sum := "f52024dc4b2521e346bb7992da44bcd0a4139223db505b31113e5ac51e5dd01e", func := "lemmary/lemmarylaw02.UnifyApplies", spec := "unifyApplies", unfollowed := true, recurses := true, plainKeys := false, apart := false }
def UnifyAppliesSaid : Prop := unifyAppliesRow.holds Try.pinned (OpenSpec.ofChange unifyAppliesSpec)

/-- ITS FALSE NEIGHBOUR: 'it returns false'. Refute it at one input. -/
def unifyAppliesWrong : ChangeSpec := { name := "unifyApplies", fn := fun _ => fun
  | [d1, d2, d3] => { results := [.lit (.bool false)], args := [d1, d2, d3] }
  | _ => none }
def UnifyAppliesWrongFalsely : Prop := unifyAppliesRow.holds Try.pinned (OpenSpec.ofChange unifyAppliesWrong)

/-- 'lemmarylaw02.UnifyComposes': WHATEVER THE INPUT: true; the input reads as it did. -/
def unifyComposesSpec : ChangeSpec := { name := "unifyComposes", fn := fun _ => fun
  | [d1, d2] => { results := [.lit (.bool true)], args := [d1, d2] }
  | _ => none }
def unifyComposesRow : OpenClaim := { program := "ytidigpfiagjeiaa", sum := "f52024dc4b2521e346bb7992da44bcd0a4139223db505b31113e5ac51e5dd01e", func := "lemmary/lemmarylaw02.UnifyComposes", spec := "unifyComposes", unfollowed := true, recurses := true, plainKeys := false, apart := false }
def UnifyComposesSaid : Prop := unifyComposesRow.holds Try.pinned (OpenSpec.ofChange unifyComposesSpec)

/-- ITS FALSE NEIGHBOUR: 'it returns false'. Refute it at one input. -/
def unifyComposesWrong : ChangeSpec := { name := "unifyComposes", fn := fun _ => fun
  | [d1, d2] => { results := [.lit (.bool false)], args := [d1, d2] }
  | _ => none }
def UnifyComposesWrongFalsely : Prop := unifyComposesRow.holds Try.pinned (OpenSpec.ofChange unifyComposesWrong)

/-- 'lemmarylaw02.UnifyBinds': WHATEVER THE INPUT: true; the input reads as it did. -/
def unifyBindsSpec : ChangeSpec := { name := "unifyBinds", fn := fun _ => fun
  | [d1, d2] => { results := [.lit (.bool true)], args := [d1, d2] }
  | _ => none }
def unifyBindsRow : OpenClaim := { program := "ytidigpfiagjeiaa", sum := "f52024dc4b2521e346bb7992da44bcd0a4139223db505b31113e5ac51e5dd01e", func := "lemmary/lemmarylaw02.UnifyBinds", spec := "unifyBinds", unfollowed := true, recurses := true, plainKeys := false, apart := false }
def UnifyBindsSaid : Prop := unifyBindsRow.holds Try.pinned (OpenSpec.ofChange unifyBindsSpec)

/-- ITS FALSE NEIGHBOUR: 'it returns false'. Refute it at one input. -/
def unifyBindsWrong : ChangeSpec := { name := "unifyBinds", fn := fun _ => fun
  | [d1, d2] => { results := [.lit (.bool false)], args := [d1, d2] }
  | _ => none }
def UnifyBindsWrongFalsely : Prop := unifyBindsRow.holds Try.pinned (OpenSpec.ofChange unifyBindsWrong)

/-- 'lemmarylaw02.UnifyGroups': WHATEVER THE INPUT: true; the input reads as it did. -/
def unifyGroupsSpec : ChangeSpec := { name := "unifyGroups", fn := fun _ => fun
  | [d1, d2] => { results := [.lit (.bool true)], args := [d1, d2] }
  | _ => none }
def unifyGroupsRow : OpenClaim := { program := "ytidigpfiagjeiaa", sum := "f52024dc4b2521e346bb7992da44bcd0a4139223db505b31113e5ac51e5dd01e", func := "lemmary/lemmarylaw02.UnifyGroups", spec := "unifyGroups", unfollowed := true, recurses := true, plainKeys := false, apart := false }
def UnifyGroupsSaid : Prop := unifyGroupsRow.holds Try.pinned (OpenSpec.ofChange unifyGroupsSpec)

/-- ITS FALSE NEIGHBOUR: 'it returns false'. Refute it at one input. -/
def unifyGroupsWrong : ChangeSpec := { name := "unifyGroups", fn := fun _ => fun
  | [d1, d2] => { results := [.lit (.bool false)], args := [d1, d2] }
  | _ => none }
def UnifyGroupsWrongFalsely : Prop := unifyGroupsRow.holds Try.pinned (OpenSpec.ofChange unifyGroupsWrong)

/-- 'lemmarylaw02.UnifyMatches': WHATEVER THE INPUT: true; the input reads as it did. -/
def unifyMatchesSpec : ChangeSpec := { name := "unifyMatches", fn := fun _ => fun
  | [d1, d2, d3] => { results := [.lit (.bool true)], args := [d1, d2, d3] }
  | _ => none }
def unifyMatchesRow : OpenClaim := { program := "ytidigpfiagjeiaa", sum := "f52024dc4b2521e346bb7992da44bcd0a4139223db505b31113e5ac51e5dd01e", func := "lemmary/lemmarylaw02.UnifyMatches", spec := "unifyMatches", unfollowed := true, recurses := true, plainKeys := false, apart := false }
def UnifyMatchesSaid : Prop := unifyMatchesRow.holds Try.pinned (OpenSpec.ofChange unifyMatchesSpec)

/-- ITS FALSE NEIGHBOUR: 'it returns false'. Refute it at one input. -/
def unifyMatchesWrong : ChangeSpec := { name := "unifyMatches", fn := fun _ => fun
  | [d1, d2, d3] => { results := [.lit (.bool false)], args := [d1, d2, d3] }
  | _ => none }
def UnifyMatchesWrongFalsely : Prop := unifyMatchesRow.holds Try.pinned (OpenSpec.ofChange unifyMatchesWrong)

/-- 'lemmarylaw02.UnifyGeneral': WHATEVER THE INPUT: true; the input reads as it did. -/
def unifyGeneralSpec : ChangeSpec := { name := "unifyGeneral", fn := fun _ => fun
  | [d1, d2] => { results := [.lit (.bool true)], args := [d1, d2] }
  | _ => none }
def unifyGeneralRow : OpenClaim := { program := "ytidigpfiagjeiaa", sum := "f52024dc4b2521e346bb7992da44bcd0a4139223db505b31113e5ac51e5dd01e", func := "lemmary/lemmarylaw02.UnifyGeneral", spec := "unifyGeneral", unfollowed := true, recurses := true, plainKeys := false, apart := false }
def UnifyGeneralSaid : Prop := unifyGeneralRow.holds Try.pinned (OpenSpec.ofChange unifyGeneralSpec)

/-- ITS FALSE NEIGHBOUR: 'it returns false'. Refute it at one input. -/
def unifyGeneralWrong : ChangeSpec := { name := "unifyGeneral", fn := fun _ => fun
  | [d1, d2] => { results := [.lit (.bool false)], args := [d1, d2] }
  | _ => none }
def UnifyGeneralWrongFalsely : Prop := unifyGeneralRow.holds Try.pinned (OpenSpec.ofChange unifyGeneralWrong)

/-- 'lemmarylaw02.UnifyUnifies': WHATEVER THE INPUT: true; the input reads as it did. -/
def unifyUnifiesSpec : ChangeSpec := { name := "unifyUnifies", fn := fun _ => fun
  | [d1, d2, d3] => { results := [.lit (.bool true)], args := [d1, d2, d3] }
  | _ => none }
def unifyUnifiesRow : OpenClaim := { program := "ytidigpfiagjeiaa", sum := "f52024dc4b2521e346bb7992da44bcd0a4139223db505b31113e5ac51e5dd01e", func := "lemmary/lemmarylaw02.UnifyUnifies", spec := "unifyUnifies", unfollowed := true, recurses := true, plainKeys := false, apart := false }
def UnifyUnifiesSaid : Prop := unifyUnifiesRow.holds Try.pinned (OpenSpec.ofChange unifyUnifiesSpec)

/-- ITS FALSE NEIGHBOUR: 'it returns false'. Refute it at one input. -/
def unifyUnifiesWrong : ChangeSpec := { name := "unifyUnifies", fn := fun _ => fun
  | [d1, d2, d3] => { results := [.lit (.bool false)], args := [d1, d2, d3] }
  | _ => none }
def UnifyUnifiesWrongFalsely : Prop := unifyUnifiesRow.holds Try.pinned (OpenSpec.ofChange unifyUnifiesWrong)

/- THE SECOND FORM. 'bulk': how many values and letters a reading holds, each counted each time it is reached (what is shared counts as often as it is met; a slice's spare places count too). A statement '..UptoSaid' is the law's where the arguments, and the package variables that the reading takes, are together of bulk at most 1048576: NARROWER than '..Said'. Prove '..Said' where nothing that the law and all that it calls make is longer than what came in: it says more and counts as full. Else prove '..UptoSaid'. A law counts once. -/
mutual
def uptoBulk {H : Type} : DataW H → Nat
  | .lit (.string bytes) => bytes.length + 1
  | .lit _ => 1
  | .nil => 1
  | .ptr d => uptoBulk d + 1
  | .slice elems spare => uptoBulkAll elems + uptoBulkAll spare + 1
  | .agg parts => uptoBulkAll parts + 1
  | .iface _ d => uptoBulk d + 1
  | .map entries => uptoBulkEntries entries + 1
  | .held _ => 1
def uptoBulkAll {H : Type} : List (DataW H) → Nat
  | [] => 0
  | d :: r => uptoBulk d + uptoBulkAll r
def uptoBulkEntries {H : Type} : List (Lit × DataW H) → Nat
  | [] => 0
  | x :: r => uptoBulkEntry x + uptoBulkEntries r
def uptoBulkEntry {H : Type} : Lit × DataW H → Nat
  | (.string bytes, d) => bytes.length + uptoBulk d + 1
  | (_, d) => uptoBulk d + 1
 end
def uptoSmall : (H : Type) → List (DataW H) → Bool := fun _ ds => decide (uptoBulkAll ds ≤ 1048576)
def OpenSpec.upto (s : _root_.Go.ChangeSpec) : _root_.Go.OpenSpec := { _root_.Go.OpenSpec.ofChange s with cond := some uptoSmall }

/-- 'lemmarylaw02.UnifyBounds', WHERE WHAT IT READS IS OF BULK AT MOST 1048576: true; the input reads as it did. -/
def unifyBoundsUptoRow : OpenClaim := { program := "ytidigpfiagjeiaa", sum := "f52024dc4b2521e346bb7992da44bcd0a4139223db505b31113e5ac51e5dd01e", func := "lemmary/lemmarylaw02.UnifyBounds", spec := "unifyBounds", unfollowed := true, recurses := true, plainKeys := false, apart := false, narrowed := true }
def UnifyBoundsUptoSaid : Prop := unifyBoundsUptoRow.holds Try.pinned (OpenSpec.upto unifyBoundsSpec)

/-- 'lemmarylaw02.UnifyOrders', WHERE WHAT IT READS IS OF BULK AT MOST 1048576: true; the input reads as it did. -/
def unifyOrdersUptoRow : OpenClaim := { program := "ytidigpfiagjeiaa", sum := "f52024dc4b2521e346bb7992da44bcd0a4139223db505b31113e5ac51e5dd01e", func := "lemmary/lemmarylaw02.UnifyOrders", spec := "unifyOrders", unfollowed := true, recurses := true, plainKeys := false, apart := false, narrowed := true }
def UnifyOrdersUptoSaid : Prop := unifyOrdersUptoRow.holds Try.pinned (OpenSpec.upto unifyOrdersSpec)

/-- 'lemmarylaw02.UnifyJoins', WHERE WHAT IT READS IS OF BULK AT MOST 1048576: true; the input reads as it did. -/
def unifyJoinsUptoRow : OpenClaim := { program := "ytidigpfiagjeiaa", sum := "f52024dc4b2521e346bb7992da44bcd0a4139223db505b31113e5ac51e5dd01e", func := "lemmary/lemmarylaw02.UnifyJoins", spec := "unifyJoins", unfollowed := true, recurses := true, plainKeys := false, apart := false, narrowed := true }
def UnifyJoinsUptoSaid : Prop := unifyJoinsUptoRow.holds Try.pinned (OpenSpec.upto unifyJoinsSpec)

/-- 'lemmarylaw02.UnifyMeets', WHERE WHAT IT READS IS OF BULK AT MOST 1048576: true; the input reads as it did. -/
def unifyMeetsUptoRow : OpenClaim := { program := "ytidigpfiagjeiaa", sum := "f52024dc4b2521e346bb7992da44bcd0a4139223db505b31113e5ac51e5dd01e", func := "lemmary/lemmarylaw02.UnifyMeets", spec := "unifyMeets", unfollowed := true, recurses := true, plainKeys := false, apart := false, narrowed := true }
def UnifyMeetsUptoSaid : Prop := unifyMeetsUptoRow.holds Try.pinned (OpenSpec.upto unifyMeetsSpec)

/-- 'lemmarylaw02.UnifyLists', WHERE WHAT IT READS IS OF BULK AT MOST 1048576: true; the input reads as it did. -/
def unifyListsUptoRow : OpenClaim := { program := "ytidigpfiagjeiaa", sum := "f52024dc4b2521e346bb7992da44bcd0a4139223db505b31113e5ac51e5dd01e", func := "lemmary/lemmarylaw02.UnifyLists", spec := "unifyLists", unfollowed := true, recurses := true, plainKeys := false, apart := false, narrowed := true }
def UnifyListsUptoSaid : Prop := unifyListsUptoRow.holds Try.pinned (OpenSpec.upto unifyListsSpec)

/-- 'lemmarylaw02.UnifyApplies', WHERE WHAT IT READS IS OF BULK AT MOST 1048576: true; the input reads as it did. -/
def unifyAppliesUptoRow : OpenClaim := { program := "ytidigpfiagjeiaa", sum := "f52024dc4b2521e346bb7992da44bcd0a4139223db505b31113e5ac51e5dd01e", func := "lemmary/lemmarylaw02.UnifyApplies", spec := "unifyApplies", unfollowed := true, recurses := true, plainKeys := false, apart := false, narrowed := true }
def UnifyAppliesUptoSaid : Prop := unifyAppliesUptoRow.holds Try.pinned (OpenSpec.upto unifyAppliesSpec)

/-- 'lemmarylaw02.UnifyComposes', WHERE WHAT IT READS IS OF BULK AT MOST 1048576: true; the input reads as it did. -/
def unifyComposesUptoRow : OpenClaim := { program := "ytidigpfiagjeiaa", sum := "f52024dc4b2521e346bb7992da44bcd0a4139223db505b31113e5ac51e5dd01e", func := "lemmary/lemmarylaw02.UnifyComposes", spec := "unifyComposes", unfollowed := true, recurses := true, plainKeys := false, apart := false, narrowed := true }
def UnifyComposesUptoSaid : Prop := unifyComposesUptoRow.holds Try.pinned (OpenSpec.upto unifyComposesSpec)

/-- 'lemmarylaw02.UnifyBinds', WHERE WHAT IT READS IS OF BULK AT MOST 1048576: true; the input reads as it did. -/
def unifyBindsUptoRow : OpenClaim := { program := "ytidigpfiagjeiaa", sum := "f52024dc4b2521e346bb7992da44bcd0a4139223db505b31113e5ac51e5dd01e", func := "lemmary/lemmarylaw02.UnifyBinds", spec := "unifyBinds", unfollowed := true, recurses := true, plainKeys := false, apart := false, narrowed := true }
def UnifyBindsUptoSaid : Prop := unifyBindsUptoRow.holds Try.pinned (OpenSpec.upto unifyBindsSpec)

/-- 'lemmarylaw02.UnifyGroups', WHERE WHAT IT READS IS OF BULK AT MOST 1048576: true; the input reads as it did. -/
def unifyGroupsUptoRow : OpenClaim := { program := "ytidigpfiagjeiaa", sum := "f52024dc4b2521e346bb7992da44bcd0a4139223db505b31113e5ac51e5dd01e", func := "lemmary/lemmarylaw02.UnifyGroups", spec := "unifyGroups", unfollowed := true, recurses := true, plainKeys := false, apart := false, narrowed := true }
def UnifyGroupsUptoSaid : Prop := unifyGroupsUptoRow.holds Try.pinned (OpenSpec.upto unifyGroupsSpec)

/-- 'lemmarylaw02.UnifyMatches', WHERE WHAT IT READS IS OF BULK AT MOST 1048576: true; the input reads as it did. -/
def unifyMatchesUptoRow : OpenClaim := { program := "ytidigpfiagjeiaa", sum := "f52024dc4b2521e346bb7992da44bcd0a4139223db505b31113e5ac51e5dd01e", func := "lemmary/lemmarylaw02.UnifyMatches", spec := "unifyMatches", unfollowed := true, recurses := true, plainKeys := false, apart := false, narrowed := true }
def UnifyMatchesUptoSaid : Prop := unifyMatchesUptoRow.holds Try.pinned (OpenSpec.upto unifyMatchesSpec)

/-- 'lemmarylaw02.UnifyGeneral', WHERE WHAT IT READS IS OF BULK AT MOST 1048576: true; the input reads as it did. -/
def unifyGeneralUptoRow : OpenClaim := { program := "ytidigpfiagjeiaa", sum := "f52024dc4b2521e346bb7992da44bcd0a4139223db505b31113e5ac51e5dd01e", func := "lemmary/lemmarylaw02.UnifyGeneral", spec := "unifyGeneral", unfollowed := true, recurses := true, plainKeys := false, apart := false, narrowed := true }
def UnifyGeneralUptoSaid : Prop := unifyGeneralUptoRow.holds Try.pinned (OpenSpec.upto unifyGeneralSpec)

/-- 'lemmarylaw02.UnifyUnifies', WHERE WHAT IT READS IS OF BULK AT MOST 1048576: true; the input reads as it did. -/
def unifyUnifiesUptoRow : OpenClaim := { program := "ytidigpfiagjeiaa", sum := "f52024dc4b2521e346bb7992da44bcd0a4139223db505b31113e5ac51e5dd01e", func := "lemmary/lemmarylaw02.UnifyUnifies", spec := "unifyUnifies", unfollowed := true, recurses := true, plainKeys := false, apart := false, narrowed := true }
def UnifyUnifiesUptoSaid : Prop := unifyUnifiesUptoRow.holds Try.pinned (OpenSpec.upto unifyUnifiesSpec)

end Rows
end Go.Proofs.Ytidigpfiagjeiaa
