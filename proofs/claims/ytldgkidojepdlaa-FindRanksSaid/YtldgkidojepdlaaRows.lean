/-
  No cell of these rows narrows 'for every input' (looked for: loops, veiled, ifaces, maps, wideKeys, modest, calm, conditions, laid).
  DERIVED. THE GIVEN ROWS OF THIS SEAT. 3 by the template 'for every input the law returns true; each argument reads behind the call as it read before'; 0 by the template 'total and deterministic' (their statements: YtldgkidojepdlaaTotals.lean).
  GIVEN WITH THE SEED: the statements are not yours to turn. If you find one false, say at which input.
  Laid BY PROGRAM, IN A SANDBOX (cutbox-rows.mjs): the forced cells as the released guide's own fill.sh prints them over the translation b2102e198edf1a8e… (all of the seat's roots in one cut). By AI agents, Wed Nov 11 2026. No macro, syntax, notation, axiom, sorry.
-/
import Derived.Test.YtldgkidojepdlaaChecked
import GoSem.Claim
import GoSem.ClaimJoined
import GoSem.ClaimMapViews
import Derived.JoinedTies
import Derived.KernelRfl
namespace Go.Proofs.Ytldgkidojepdlaa
/- THE CELL 'sum', in the pinned program and in every row, IS THE sha256 OF THE DUMP (.gsa) THAT YtldgkidojepdlaaProg.lean LOADS. Nothing in Lean hashes anything: it is a label: what it is worth is what the hold of that sum in a sandbox is worth. -/
noncomputable def Try.pinned : Pinned := { name := "ytldgkidojepdlaa", sum := "b2102e198edf1a8e5e737396bb012f151e8e1882444dfdb5b25000e25764332c", checked := Try.checked }
namespace Rows
def none {H : Type} : Left H := { results := [], args := [] }

/-- 'lemmarytop.TopShelves': WHATEVER THE INPUT: true; the input reads as it did. -/
def topShelvesSpec : ChangeSpec := { name := "topShelves", fn := fun _ => fun
  | [d1, d2, d3] => { results := [.lit (.bool true)], args := [d1, d2, d3] }
  | _ => none }
def topShelvesRow : OpenClaim := { program := "ytldgkidojepdlaa", sum := "b2102e198edf1a8e5e737396bb012f151e8e1882444dfdb5b25000e25764332c", func := "lemmary/lemmarytop.TopShelves", spec := "topShelves", unfollowed := true, recurses := true, plainKeys := false, apart := false }
def TopShelvesSaid : Prop := topShelvesRow.holds Try.pinned (OpenSpec.ofChange topShelvesSpec)

/-- ITS FALSE NEIGHBOUR: 'it returns false'. Refute it at one input. -/
def topShelvesWrong : ChangeSpec := { name := "topShelves", fn := fun _ => fun
  | [d1, d2, d3] => { results := [.lit (.bool false)], args := [d1, d2, d3] }
  | _ => none }
def TopShelvesWrongFalsely : Prop := topShelvesRow.holds Try.pinned (OpenSpec.ofChange topShelvesWrong)

/-- 'lemmarylaw05.FindRanks': WHATEVER THE INPUT: true; the input reads as it did. -/
def findRanksSpec : ChangeSpec := { name := "findRanks", fn := fun _ => fun
  | [d1, d2, d3] => { results := [.lit (.bool true)], args := [d1, d2, d3] }
  | _ => none }
def findRanksRow : OpenClaim := { program := "ytldgkidojepdlaa", sum := "b2102e198edf1a8e5e737396bb012f151e8e1882444dfdb5b25000e25764332c", func := "lemmary/lemmarylaw05.FindRanks", spec := "findRanks", unfollowed := true, recurses := true, plainKeys := false, apart := false }
def FindRanksSaid : Prop := findRanksRow.holds Try.pinned (OpenSpec.ofChange findRanksSpec)

/-- ITS FALSE NEIGHBOUR: 'it returns false'. Refute it at one input. -/
def findRanksWrong : ChangeSpec := { name := "findRanks", fn := fun _ => fun
  | [d1, d2, d3] => { results := [.lit (.bool false)], args := [d1, d2, d3] }
  | _ => none }
def FindRanksWrongFalsely : Prop := findRanksRow.holds Try.pinned (OpenSpec.ofChange findRanksWrong)

/-- 'lemmarytop.TopCarriedUnify': WHATEVER THE INPUT: true; the input reads as it did. -/
def topCarriedUnifySpec : ChangeSpec := { name := "topCarriedUnify", fn := fun _ => fun
  | [d1, d2, d3] => { results := [.lit (.bool true)], args := [d1, d2, d3] }
  | _ => none }
def topCarriedUnifyRow : OpenClaim := { program := "ytldgkidojepdlaa", sum := "b2102e198edf1a8e5e737396bb012f151e8e1882444dfdb5b25000e25764332c", func := "lemmary/lemmarytop.TopCarriedUnify", spec := "topCarriedUnify", unfollowed := true, recurses := true, plainKeys := false, apart := false }
def TopCarriedUnifySaid : Prop := topCarriedUnifyRow.holds Try.pinned (OpenSpec.ofChange topCarriedUnifySpec)

/-- ITS FALSE NEIGHBOUR: 'it returns false'. Refute it at one input. -/
def topCarriedUnifyWrong : ChangeSpec := { name := "topCarriedUnify", fn := fun _ => fun
  | [d1, d2, d3] => { results := [.lit (.bool false)], args := [d1, d2, d3] }
  | _ => none }
def TopCarriedUnifyWrongFalsely : Prop := topCarriedUnifyRow.holds Try.pinned (OpenSpec.ofChange topCarriedUnifyWrong)

/- THE SECOND FORM. 'bulk': how many values and letters a reading holds, each counted each time it is reached (what is shared counts as often as it is met; a slice's spare places count too). A statement '..UptoSaid' is the law's where the arguments, and the package variables that the reading takes, are together of bulk at most 1048576: NARROWER than '..Said'. Prove '..Said' where nothing that the law and all that it calls make is longer than what came in: it says more and counts as full. Else prove '..UptoSaid'. A law counts once. -/
mutual
def uptoBulk {H : Type} : DataW H → Nat
  | .lit (.string bytes) => bytes.length + 1
  | .lit _ => 1
  | .nil => 1
  | .ptr d => uptoBulk d + 1
  | .slice elems spare => uptoBulkAll elems + uptoBulkAll spare + 1
  | .agg parts => uptoBulkAll parts + 1
  | .iface _ d => uptoBulk d + 1
  | .map entries => uptoBulkEntries entries + 1
  | .held _ => 1
def uptoBulkAll {H : Type} : List (DataW H) → Nat
  | [] => 0
  | d :: r => uptoBulk d + uptoBulkAll r
def uptoBulkEntries {H : Type} : List (Lit × DataW H) → Nat
  | [] => 0
  | x :: r => uptoBulkEntry x + uptoBulkEntries r
def uptoBulkEntry {H : Type} : Lit × DataW H → Nat
  | (.string bytes, d) => bytes.length + uptoBulk d + 1
  | (_, d) => uptoBulk d + 1
 end
def uptoSmall : (H : Type) → List (DataW H) → Bool := fun _ ds => decide (uptoBulkAll ds ≤ 1048576)
def OpenSpec.upto (s : _root_.Go.ChangeSpec) : _root_.Go.OpenSpec := { _root_.Go.OpenSpec.ofChange s with cond := some uptoSmall }

/-- 'lemmarytop.TopShelves', WHERE WHAT IT READS IS OF BULK AT MOST 1048576: true; the input reads as it did. -/
def topShelvesUptoRow : OpenClaim := { program := "ytldgkidojepdlaa", sum := "b2102e198edf1a8e5e737396bb012f151e8e1882444dfdb5b25000e25764332c", func := "lemmary/lemmarytop.TopShelves", spec := "topShelves", unfollowed := true, recurses := true, plainKeys := false, apart := false, narrowed := true }
def TopShelvesUptoSaid : Prop := topShelvesUptoRow.holds Try.pinned (OpenSpec.upto topShelvesSpec)

/-- 'lemmarylaw05.FindRanks', WHERE WHAT IT READS IS OF BULK AT MOST 1048576: true; the input reads as it did. -/
def findRanksUptoRow : OpenClaim := { program := "ytldgkidojepdlaa", sum := "b2102e198edf1a8e5e737396bb012f151e8e1882444dfdb5b25000e25764332c", func := "lemmary/lemmarylaw05.FindRanks", spec := "findRanks", unfollowed := true, recurses := true, plainKeys := false, apart := false, narrowed := true }
def FindRanksUptoSaid : Prop := findRanksUptoRow.holds Try.pinned (OpenSpec.upto findRanksSpec)

/-- 'lemmarytop.TopCarriedUnify', WHERE WHAT IT READS IS OF BULK AT MOST 1048576: true; the input reads as it did. -/
def topCarriedUnifyUptoRow : OpenClaim := { program := "ytldgkidojepdlaa", sum := "b2102e198edf1a8e5e737396bb012f151e8e1882444dfdb5b25000e25764332c", func := "lemmary/lemmarytop.TopCarriedUnify", spec := "topCarriedUnify", unfollowed := true, recurses := true, plainKeys := false, apart := false, narrowed := true }
def TopCarriedUnifyUptoSaid : Prop := topCarriedUnifyUptoRow.holds Try.pinned (OpenSpec.upto topCarriedUnifySpec)

end Rows
end Go.Proofs.Ytldgkidojepdlaa
