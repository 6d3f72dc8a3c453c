/-
  No cell of these rows narrows 'for every input' (looked for: loops, veiled, ifaces, maps, wideKeys, modest, calm, conditions, laid).
  DERIVED. THE GIVEN ROWS OF THIS SEAT. 5 by the template 'for every input the law returns true; each argument reads behind the call as it read before'; 0 by the template 'total and deterministic' (their statements: YtpflkjldapmgdaaGreatTotals.lean).
  GIVEN WITH THE SEED: the statements are not yours to turn. If you find one false, say at which input.
  Laid BY PROGRAM, IN A SANDBOX (cutbox-rows.mjs): the forced cells as the released guide's own fill.sh prints them over the translation e3eb31d927586ac8… (all of the seat's roots in one cut). By AI agents, Wed Nov 11 2026. No macro, syntax, notation, axiom, sorry.
-/
import Derived.Test.YtpflkjldapmgdaaGreatChecked
import GoSem.Claim
import GoSem.ClaimJoined
import GoSem.ClaimMapViews
import Derived.JoinedTies
import Derived.KernelRfl
namespace Go.Proofs.YtpflkjldapmgdaaGreat
/- THE CELL 'sum', in the pinned program and in every row, IS THE sha256 OF THE DUMP (.gsa) THAT YtpflkjldapmgdaaGreatProg.lean LOADS. Nothing in Lean hashes anything: it is a label: what it is worth is what the hold of that sum in a sandbox is worth. -/
noncomputable def Tryz.pinned : Pinned := { name := "ytpflkjldapmgdaagreat", sum := "e3eb31d927586ac83551de578e6ae08e87738d1e84475a6c0ae2208baef9cedb", checked := Tryz.checked }
namespace Rows
def none {H : Type} : Left H := { results := [], args := [] }

/-- 'lemmarylaw08.CarryAlong': WHATEVER THE INPUT: true; the input reads as it did. -/
def carryAlongSpec : ChangeSpec := { name := "carryAlong", fn := fun _ => fun
  | [d1, d2, d3, d4, d5, d6] => { results := [.lit (.bool true)], args := [d1, d2, d3, d4, d5, d6] }
  | _ => none }
def carryAlongRow : OpenClaim := { program := "ytpflkjldapmgdaagreat", sum := "e3eb31d927586ac83551de578e6ae08e87738d1e84475a6c0ae2208baef9cedb", func := "lemmary/lemmarylaw08.CarryAlong", spec := "carryAlong", unfollowed := true, recurses := true, apart := false }
def CarryAlongSaid : Prop := carryAlongRow.holds Tryz.pinned (OpenSpec.ofChange carryAlongSpec)

/-- ITS FALSE NEIGHBOUR: 'it returns false'. Refute it at one input. -/
def carryAlongWrong : ChangeSpec := { name := "carryAlong", fn := fun _ => fun
  | [d1, d2, d3, d4, d5, d6] => { results := [.lit (.bool false)], args := [d1, d2, d3, d4, d5, d6] }
  | _ => none }
def CarryAlongWrongFalsely : Prop := carryAlongRow.holds Tryz.pinned (OpenSpec.ofChange carryAlongWrong)

/-- 'lemmarylaw08.CarryChains': WHATEVER THE INPUT: true; the input reads as it did. -/
def carryChainsSpec : ChangeSpec := { name := "carryChains", fn := fun _ => fun
  | [d1, d2, d3, d4, d5, d6] => { results := [.lit (.bool true)], args := [d1, d2, d3, d4, d5, d6] }
  | _ => none }
def carryChainsRow : OpenClaim := { program := "ytpflkjldapmgdaagreat", sum := "e3eb31d927586ac83551de578e6ae08e87738d1e84475a6c0ae2208baef9cedb", func := "lemmary/lemmarylaw08.CarryChains", spec := "carryChains", unfollowed := true, recurses := true, apart := false }
def CarryChainsSaid : Prop := carryChainsRow.holds Tryz.pinned (OpenSpec.ofChange carryChainsSpec)

/-- ITS FALSE NEIGHBOUR: 'it returns false'. Refute it at one input. -/
def carryChainsWrong : ChangeSpec := { name := "carryChains", fn := fun _ => fun
  | [d1, d2, d3, d4, d5, d6] => { results := [.lit (.bool false)], args := [d1, d2, d3, d4, d5, d6] }
  | _ => none }
def CarryChainsWrongFalsely : Prop := carryChainsRow.holds Tryz.pinned (OpenSpec.ofChange carryChainsWrong)

/-- 'lemmarylaw08.CarryConverse': WHATEVER THE INPUT: true; the input reads as it did. -/
def carryConverseSpec : ChangeSpec := { name := "carryConverse", fn := fun _ => fun
  | [d1, d2, d3, d4] => { results := [.lit (.bool true)], args := [d1, d2, d3, d4] }
  | _ => none }
def carryConverseRow : OpenClaim := { program := "ytpflkjldapmgdaagreat", sum := "e3eb31d927586ac83551de578e6ae08e87738d1e84475a6c0ae2208baef9cedb", func := "lemmary/lemmarylaw08.CarryConverse", spec := "carryConverse", unfollowed := true, recurses := true, apart := false }
def CarryConverseSaid : Prop := carryConverseRow.holds Tryz.pinned (OpenSpec.ofChange carryConverseSpec)

/-- ITS FALSE NEIGHBOUR: 'it returns false'. Refute it at one input. -/
def carryConverseWrong : ChangeSpec := { name := "carryConverse", fn := fun _ => fun
  | [d1, d2, d3, d4] => { results := [.lit (.bool false)], args := [d1, d2, d3, d4] }
  | _ => none }
def CarryConverseWrongFalsely : Prop := carryConverseRow.holds Tryz.pinned (OpenSpec.ofChange carryConverseWrong)

/-- 'lemmarylaw08.CarryDerives': WHATEVER THE INPUT: true; the input reads as it did. -/
def carryDerivesSpec : ChangeSpec := { name := "carryDerives", fn := fun _ => fun
  | [d1, d2, d3, d4, d5] => { results := [.lit (.bool true)], args := [d1, d2, d3, d4, d5] }
  | _ => none }
def carryDerivesRow : OpenClaim := { program := "ytpflkjldapmgdaagreat", sum := "e3eb31d927586ac83551de578e6ae08e87738d1e84475a6c0ae2208baef9cedb", func := "lemmary/lemmarylaw08.CarryDerives", spec := "carryDerives", unfollowed := true, recurses := true, apart := false }
def CarryDerivesSaid : Prop := carryDerivesRow.holds Tryz.pinned (OpenSpec.ofChange carryDerivesSpec)

/-- ITS FALSE NEIGHBOUR: 'it returns false'. Refute it at one input. -/
def carryDerivesWrong : ChangeSpec := { name := "carryDerives", fn := fun _ => fun
  | [d1, d2, d3, d4, d5] => { results := [.lit (.bool false)], args := [d1, d2, d3, d4, d5] }
  | _ => none }
def CarryDerivesWrongFalsely : Prop := carryDerivesRow.holds Tryz.pinned (OpenSpec.ofChange carryDerivesWrong)

/-- 'lemmarytop.TopCarried': WHATEVER THE INPUT: true; the input reads as it did. -/
def topCarriedSpec : ChangeSpec := { name := "topCarried", fn := fun _ => fun
  | [d1, d2, d3, d4, d5, d6, d7, d8] => { results := [.lit (.bool true)], args := [d1, d2, d3, d4, d5, d6, d7, d8] }
  | _ => none }
def topCarriedRow : OpenClaim := { program := "ytpflkjldapmgdaagreat", sum := "e3eb31d927586ac83551de578e6ae08e87738d1e84475a6c0ae2208baef9cedb", func := "lemmary/lemmarytop.TopCarried", spec := "topCarried", unfollowed := true, recurses := true, apart := false }
def TopCarriedSaid : Prop := topCarriedRow.holds Tryz.pinned (OpenSpec.ofChange topCarriedSpec)

/-- ITS FALSE NEIGHBOUR: 'it returns false'. Refute it at one input. -/
def topCarriedWrong : ChangeSpec := { name := "topCarried", fn := fun _ => fun
  | [d1, d2, d3, d4, d5, d6, d7, d8] => { results := [.lit (.bool false)], args := [d1, d2, d3, d4, d5, d6, d7, d8] }
  | _ => none }
def TopCarriedWrongFalsely : Prop := topCarriedRow.holds Tryz.pinned (OpenSpec.ofChange topCarriedWrong)

/- THE SECOND FORM. 'bulk': how many values and letters a reading holds, each counted each time it is reached (what is shared counts as often as it is met; a slice's spare places count too). A statement '..UptoSaid' is the law's where the arguments, and the package variables that the reading takes, are together of bulk at most 1048576: NARROWER than '..Said'. Prove '..Said' where nothing that the law and all that it calls make is longer than what came in: it says more and counts as full. Else prove '..UptoSaid'. A law counts once. -/
mutual
def uptoBulk {H : Type} : DataW H → Nat
  | .lit (.string bytes) => bytes.length + 1
  | .lit _ => 1
  | .nil => 1
  | .ptr d => uptoBulk d + 1
  | .slice elems spare => uptoBulkAll elems + uptoBulkAll spare + 1
  | .agg parts => uptoBulkAll parts + 1
  | .iface _ d => uptoBulk d + 1
  | .map entries => uptoBulkEntries entries + 1
  | .held _ => 1
def uptoBulkAll {H : Type} : List (DataW H) → Nat
  | [] => 0
  | d :: r => uptoBulk d + uptoBulkAll r
def uptoBulkEntries {H : Type} : List (Lit × DataW H) → Nat
  | [] => 0
  | x :: r => uptoBulkEntry x + uptoBulkEntries r
def uptoBulkEntry {H : Type} : Lit × DataW H → Nat
  | (.string bytes, d) => bytes.length + uptoBulk d + 1
  | (_, d) => uptoBulk d + 1
 end
def uptoSmall : (H : Type) → List (DataW H) → Bool := fun _ ds => decide (uptoBulkAll ds ≤ 1048576)
def OpenSpec.upto (s : _root_.Go.ChangeSpec) : _root_.Go.OpenSpec := { _root_.Go.OpenSpec.ofChange s with cond := some uptoSmall }

/-- 'lemmarylaw08.CarryAlong', WHERE WHAT IT READS IS OF BULK AT MOST 1048576: true; the input reads as it did. -/
def carryAlongUptoRow : OpenClaim := { program := "ytpflkjldapmgdaagreat", sum := "e3eb31d927586ac83551de578e6ae08e87738d1e84475a6c0ae2208baef9cedb", func := "lemmary/lemmarylaw08.CarryAlong", spec := "carryAlong", unfollowed := true, recurses := true, apart := false, narrowed := true }
def CarryAlongUptoSaid : Prop := carryAlongUptoRow.holds Tryz.pinned (OpenSpec.upto carryAlongSpec)

/-- 'lemmarylaw08.CarryChains', WHERE WHAT IT READS IS OF BULK AT MOST 1048576: true; the input reads as it did. -/
def carryChainsUptoRow : OpenClaim := { program := "ytpflkjldapmgdaagreat", sum := "e3eb31d927586ac83551de578e6ae08e87738d1e84475a6c0ae2208baef9cedb", func := "lemmary/lemmarylaw08.CarryChains", spec := "carryChains", unfollowed := true, recurses := true, apart := false, narrowed := true }
def CarryChainsUptoSaid : Prop := carryChainsUptoRow.holds Tryz.pinned (OpenSpec.upto carryChainsSpec)

/-- 'lemmarylaw08.CarryConverse', WHERE WHAT IT READS IS OF BULK AT MOST 1048576: true; the input reads as it did. -/
def carryConverseUptoRow : OpenClaim := { program := "ytpflkjldapmgdaagreat", sum := "e3eb31d927586ac83551de578e6ae08e87738d1e84475a6c0ae2208baef9cedb", func := "lemmary/lemmarylaw08.CarryConverse", spec := "carryConverse", unfollowed := true, recurses := true, apart := false, narrowed := true }
def CarryConverseUptoSaid : Prop := carryConverseUptoRow.holds Tryz.pinned (OpenSpec.upto carryConverseSpec)

/-- 'lemmarylaw08.CarryDerives', WHERE WHAT IT READS IS OF BULK AT MOST 1048576: true; the input reads as it did. -/
def carryDerivesUptoRow : OpenClaim := { program := "ytpflkjldapmgdaagreat", sum := "e3eb31d927586ac83551de578e6ae08e87738d1e84475a6c0ae2208baef9cedb", func := "lemmary/lemmarylaw08.CarryDerives", spec := "carryDerives", unfollowed := true, recurses := true, apart := false, narrowed := true }
def CarryDerivesUptoSaid : Prop := carryDerivesUptoRow.holds Tryz.pinned (OpenSpec.upto carryDerivesSpec)

/-- 'lemmarytop.TopCarried', WHERE WHAT IT READS IS OF BULK AT MOST 1048576: true; the input reads as it did. -/
def topCarriedUptoRow : OpenClaim := { program := "ytpflkjldapmgdaagreat", sum := "e3eb31d927586ac83551de578e6ae08e87738d1e84475a6c0ae2208baef9cedb", func := "lemmary/lemmarytop.TopCarried", spec := "topCarried", unfollowed := true, recurses := true, apart := false, narrowed := true }
def TopCarriedUptoSaid : Prop := topCarriedUptoRow.holds Tryz.pinned (OpenSpec.upto topCarriedSpec)

end Rows
end Go.Proofs.YtpflkjldapmgdaaGreat
