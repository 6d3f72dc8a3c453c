/-
  No cell of these rows narrows 'for every input' (looked for: loops, veiled, ifaces, maps, wideKeys, modest, calm, conditions, laid).
  DERIVED. THE GIVEN ROWS OF THIS SEAT. 7 by the template 'for every input the law returns true; each argument reads behind the call as it read before'; 0 by the template 'total and deterministic' (their statements: YtlbjbmpkaniojaaGreatTotals.lean).
  GIVEN WITH THE SEED: the statements are not yours to turn. If you find one false, say at which input.
  Laid BY PROGRAM, IN A SANDBOX (cutbox-rows.mjs): the forced cells as the released guide's own fill.sh prints them over the translation 7525228e1714777e… (all of the seat's roots in one cut). By AI agents, Wed Nov 11 2026. No macro, syntax, notation, axiom, sorry.
-/
import Derived.Test.YtlbjbmpkaniojaaGreatChecked
import GoSem.Claim
import GoSem.ClaimJoined
import GoSem.ClaimMapViews
import Derived.JoinedTies
import Derived.KernelRfl
namespace Go.Proofs.YtlbjbmpkaniojaaGreat
/- THE CELL 'sum', in the pinned program and in every row, IS THE sha256 OF THE DUMP (.gsa) THAT YtlbjbmpkaniojaaGreatProg.lean LOADS. Nothing in Lean hashes anything: it is a label: what it is worth is what the hold of that sum in a sandbox is worth. -/
noncomputable def Tryz.pinned : Pinned := { name := "ytlbjbmpkaniojaagreat", sum := "7525228e1714777ed2f3871a9a5d4145bad83f2cbc4f6e1d217fe0cc8eeae0b5", checked := Tryz.checked }
namespace Rows
def none {H : Type} : Left H := { results := [], args := [] }

/-- 'lemmarylaw09.BlamePlays': WHATEVER THE INPUT: true; the input reads as it did. -/
def blamePlaysSpec : ChangeSpec := { name := "blamePlays", fn := fun _ => fun
  | [d1, d2, d3, d4] => { results := [.lit (.bool true)], args := [d1, d2, d3, d4] }
  | _ => none }
def blamePlaysRow : OpenClaim := { program := "ytlbjbmpkaniojaagreat", sum := "7525228e1714777ed2f3871a9a5d4145bad83f2cbc4f6e1d217fe0cc8eeae0b5", func := "lemmary/lemmarylaw09.BlamePlays", spec := "blamePlays", inPlace := ["internal/bytealg.abigen_runtime_cmpstring"], unfollowed := true, recurses := true, apart := false }
def BlamePlaysSaid : Prop := blamePlaysRow.holds Tryz.pinned (OpenSpec.ofChange blamePlaysSpec)

/-- ITS FALSE NEIGHBOUR: 'it returns false'. Refute it at one input. -/
def blamePlaysWrong : ChangeSpec := { name := "blamePlays", fn := fun _ => fun
  | [d1, d2, d3, d4] => { results := [.lit (.bool false)], args := [d1, d2, d3, d4] }
  | _ => none }
def BlamePlaysWrongFalsely : Prop := blamePlaysRow.holds Tryz.pinned (OpenSpec.ofChange blamePlaysWrong)

/-- 'lemmarylaw09.BlameApart': WHATEVER THE INPUT: true; the input reads as it did. -/
def blameApartSpec : ChangeSpec := { name := "blameApart", fn := fun _ => fun
  | [d1, d2, d3, d4] => { results := [.lit (.bool true)], args := [d1, d2, d3, d4] }
  | _ => none }
def blameApartRow : OpenClaim := { program := "ytlbjbmpkaniojaagreat", sum := "7525228e1714777ed2f3871a9a5d4145bad83f2cbc4f6e1d217fe0cc8eeae0b5", func := "lemmary/lemmarylaw09.BlameApart", spec := "blameApart", inPlace := ["internal/bytealg.abigen_runtime_cmpstring"], unfollowed := true, recurses := true, apart := false }
def BlameApartSaid : Prop := blameApartRow.holds Tryz.pinned (OpenSpec.ofChange blameApartSpec)

/-- ITS FALSE NEIGHBOUR: 'it returns false'. Refute it at one input. -/
def blameApartWrong : ChangeSpec := { name := "blameApart", fn := fun _ => fun
  | [d1, d2, d3, d4] => { results := [.lit (.bool false)], args := [d1, d2, d3, d4] }
  | _ => none }
def BlameApartWrongFalsely : Prop := blameApartRow.holds Tryz.pinned (OpenSpec.ofChange blameApartWrong)

/-- 'lemmarylaw09.BlameMakes': WHATEVER THE INPUT: true; the input reads as it did. -/
def blameMakesSpec : ChangeSpec := { name := "blameMakes", fn := fun _ => fun
  | [d1, d2, d3] => { results := [.lit (.bool true)], args := [d1, d2, d3] }
  | _ => none }
def blameMakesRow : OpenClaim := { program := "ytlbjbmpkaniojaagreat", sum := "7525228e1714777ed2f3871a9a5d4145bad83f2cbc4f6e1d217fe0cc8eeae0b5", func := "lemmary/lemmarylaw09.BlameMakes", spec := "blameMakes", inPlace := ["internal/bytealg.abigen_runtime_cmpstring"], unfollowed := true, recurses := true, apart := false }
def BlameMakesSaid : Prop := blameMakesRow.holds Tryz.pinned (OpenSpec.ofChange blameMakesSpec)

/-- ITS FALSE NEIGHBOUR: 'it returns false'. Refute it at one input. -/
def blameMakesWrong : ChangeSpec := { name := "blameMakes", fn := fun _ => fun
  | [d1, d2, d3] => { results := [.lit (.bool false)], args := [d1, d2, d3] }
  | _ => none }
def BlameMakesWrongFalsely : Prop := blameMakesRow.holds Tryz.pinned (OpenSpec.ofChange blameMakesWrong)

/-- 'lemmarylaw09.BlameDiffers': WHATEVER THE INPUT: true; the input reads as it did. -/
def blameDiffersSpec : ChangeSpec := { name := "blameDiffers", fn := fun _ => fun
  | [d1, d2, d3, d4] => { results := [.lit (.bool true)], args := [d1, d2, d3, d4] }
  | _ => none }
def blameDiffersRow : OpenClaim := { program := "ytlbjbmpkaniojaagreat", sum := "7525228e1714777ed2f3871a9a5d4145bad83f2cbc4f6e1d217fe0cc8eeae0b5", func := "lemmary/lemmarylaw09.BlameDiffers", spec := "blameDiffers", inPlace := ["internal/bytealg.abigen_runtime_cmpstring"], unfollowed := true, recurses := true, apart := false }
def BlameDiffersSaid : Prop := blameDiffersRow.holds Tryz.pinned (OpenSpec.ofChange blameDiffersSpec)

/-- ITS FALSE NEIGHBOUR: 'it returns false'. Refute it at one input. -/
def blameDiffersWrong : ChangeSpec := { name := "blameDiffers", fn := fun _ => fun
  | [d1, d2, d3, d4] => { results := [.lit (.bool false)], args := [d1, d2, d3, d4] }
  | _ => none }
def BlameDiffersWrongFalsely : Prop := blameDiffersRow.holds Tryz.pinned (OpenSpec.ofChange blameDiffersWrong)

/-- 'lemmarylaw09.BlameMarks': WHATEVER THE INPUT: true; the input reads as it did. -/
def blameMarksSpec : ChangeSpec := { name := "blameMarks", fn := fun _ => fun
  | [d1, d2, d3, d4, d5, d6] => { results := [.lit (.bool true)], args := [d1, d2, d3, d4, d5, d6] }
  | _ => none }
def blameMarksRow : OpenClaim := { program := "ytlbjbmpkaniojaagreat", sum := "7525228e1714777ed2f3871a9a5d4145bad83f2cbc4f6e1d217fe0cc8eeae0b5", func := "lemmary/lemmarylaw09.BlameMarks", spec := "blameMarks", inPlace := ["internal/bytealg.abigen_runtime_cmpstring"], unfollowed := true, recurses := true, apart := false }
def BlameMarksSaid : Prop := blameMarksRow.holds Tryz.pinned (OpenSpec.ofChange blameMarksSpec)

/-- ITS FALSE NEIGHBOUR: 'it returns false'. Refute it at one input. -/
def blameMarksWrong : ChangeSpec := { name := "blameMarks", fn := fun _ => fun
  | [d1, d2, d3, d4, d5, d6] => { results := [.lit (.bool false)], args := [d1, d2, d3, d4, d5, d6] }
  | _ => none }
def BlameMarksWrongFalsely : Prop := blameMarksRow.holds Tryz.pinned (OpenSpec.ofChange blameMarksWrong)

/-- 'lemmarylaw09.BlameMerges': WHATEVER THE INPUT: true; the input reads as it did. -/
def blameMergesSpec : ChangeSpec := { name := "blameMerges", fn := fun _ => fun
  | [d1, d2, d3, d4] => { results := [.lit (.bool true)], args := [d1, d2, d3, d4] }
  | _ => none }
def blameMergesRow : OpenClaim := { program := "ytlbjbmpkaniojaagreat", sum := "7525228e1714777ed2f3871a9a5d4145bad83f2cbc4f6e1d217fe0cc8eeae0b5", func := "lemmary/lemmarylaw09.BlameMerges", spec := "blameMerges", inPlace := ["internal/bytealg.abigen_runtime_cmpstring"], unfollowed := true, recurses := true, apart := false }
def BlameMergesSaid : Prop := blameMergesRow.holds Tryz.pinned (OpenSpec.ofChange blameMergesSpec)

/-- ITS FALSE NEIGHBOUR: 'it returns false'. Refute it at one input. -/
def blameMergesWrong : ChangeSpec := { name := "blameMerges", fn := fun _ => fun
  | [d1, d2, d3, d4] => { results := [.lit (.bool false)], args := [d1, d2, d3, d4] }
  | _ => none }
def BlameMergesWrongFalsely : Prop := blameMergesRow.holds Tryz.pinned (OpenSpec.ofChange blameMergesWrong)

/-- 'lemmarytop.TopUndone': WHATEVER THE INPUT: true; the input reads as it did. -/
def topUndoneSpec : ChangeSpec := { name := "topUndone", fn := fun _ => fun
  | [d1, d2, d3, d4] => { results := [.lit (.bool true)], args := [d1, d2, d3, d4] }
  | _ => none }
def topUndoneRow : OpenClaim := { program := "ytlbjbmpkaniojaagreat", sum := "7525228e1714777ed2f3871a9a5d4145bad83f2cbc4f6e1d217fe0cc8eeae0b5", func := "lemmary/lemmarytop.TopUndone", spec := "topUndone", inPlace := ["internal/bytealg.abigen_runtime_cmpstring"], unfollowed := true, recurses := true, apart := false }
def TopUndoneSaid : Prop := topUndoneRow.holds Tryz.pinned (OpenSpec.ofChange topUndoneSpec)

/-- ITS FALSE NEIGHBOUR: 'it returns false'. Refute it at one input. -/
def topUndoneWrong : ChangeSpec := { name := "topUndone", fn := fun _ => fun
  | [d1, d2, d3, d4] => { results := [.lit (.bool false)], args := [d1, d2, d3, d4] }
  | _ => none }
def TopUndoneWrongFalsely : Prop := topUndoneRow.holds Tryz.pinned (OpenSpec.ofChange topUndoneWrong)

/- THE SECOND FORM. 'bulk': how many values and letters a reading holds, each counted each time it is reached (what is shared counts as often as it is met; a slice's spare places count too). A statement '..UptoSaid' is the law's where the arguments, and the package variables that the reading takes, are together of bulk at most 1048576: NARROWER than '..Said'. Prove '..Said' where nothing that the law and all that it calls make is longer than what came in: it says more and counts as full. Else prove '..UptoSaid'. A law counts once. -/
mutual
def uptoBulk {H : Type} : DataW H → Nat
  | .lit (.string bytes) => bytes.length + 1
  | .lit _ => 1
  | .nil => 1
  | .ptr d => uptoBulk d + 1
  | .slice elems spare => uptoBulkAll elems + uptoBulkAll spare + 1
  | .agg parts => uptoBulkAll parts + 1
  | .iface _ d => uptoBulk d + 1
  | .map entries => uptoBulkEntries entries + 1
  | .held _ => 1
def uptoBulkAll {H : Type} : List (DataW H) → Nat
  | [] => 0
  | d :: r => uptoBulk d + uptoBulkAll r
def uptoBulkEntries {H : Type} : List (Lit × DataW H) → Nat
  | [] => 0
  | x :: r => uptoBulkEntry x + uptoBulkEntries r
def uptoBulkEntry {H : Type} : Lit × DataW H → Nat
  | (.string bytes, d) => bytes.length + uptoBulk d + 1
  | (_, d) => uptoBulk d + 1
 end
def uptoSmall : (H : Type) → List (DataW H) → Bool := fun _ ds => decide (uptoBulkAll ds ≤ 1048576)
def OpenSpec.upto (s : _root_.Go.ChangeSpec) : _root_.Go.OpenSpec := { _root_.Go.OpenSpec.ofChange s with cond := some uptoSmall }

/-- 'lemmarylaw09.BlamePlays', WHERE WHAT IT READS IS OF BULK AT MOST 1048576: true; the input reads as it did. -/
def blamePlaysUptoRow : OpenClaim := { program := "ytlbjbmpkaniojaagreat", sum := "7525228e1714777ed2f3871a9a5d4145bad83f2cbc4f6e1d217fe0cc8eeae0b5", func := "lemmary/lemmarylaw09.BlamePlays", spec := "blamePlays", inPlace := ["internal/bytealg.abigen_runtime_cmpstring"], unfollowed := true, recurses := true, apart := false, narrowed := true }
def BlamePlaysUptoSaid : Prop := blamePlaysUptoRow.holds Tryz.pinned (OpenSpec.upto blamePlaysSpec)

/-- 'lemmarylaw09.BlameApart', WHERE WHAT IT READS IS OF BULK AT MOST 1048576: true; the input reads as it did. -/
def blameApartUptoRow : OpenClaim := { program := "ytlbjbmpkaniojaagreat", sum := "7525228e1714777ed2f3871a9a5d4145bad83f2cbc4f6e1d217fe0cc8eeae0b5", func := "lemmary/lemmarylaw09.BlameApart", spec := "blameApart", inPlace := ["internal/bytealg.abigen_runtime_cmpstring"], unfollowed := true, recurses := true, apart := false, narrowed := true }
def BlameApartUptoSaid : Prop := blameApartUptoRow.holds Tryz.pinned (OpenSpec.upto blameApartSpec)

/-- 'lemmarylaw09.BlameMakes', WHERE WHAT IT READS IS OF BULK AT MOST 1048576: true; the input reads as it did. -/
def blameMakesUptoRow : OpenClaim := { program := "ytlbjbmpkaniojaagreat", sum := "7525228e1714777ed2f3871a9a5d4145bad83f2cbc4f6e1d217fe0cc8eeae0b5", func := "lemmary/lemmarylaw09.BlameMakes", spec := "blameMakes", inPlace := ["internal/bytealg.abigen_runtime_cmpstring"], unfollowed := true, recurses := true, apart := false, narrowed := true }
def BlameMakesUptoSaid : Prop := blameMakesUptoRow.holds Tryz.pinned (OpenSpec.upto blameMakesSpec)

/-- 'lemmarylaw09.BlameDiffers', WHERE WHAT IT READS IS OF BULK AT MOST 1048576: true; the input reads as it did. -/
def blameDiffersUptoRow : OpenClaim := { program := "ytlbjbmpkaniojaagreat", sum := "7525228e1714777ed2f3871a9a5d4145bad83f2cbc4f6e1d217fe0cc8eeae0b5", func := "lemmary/lemmarylaw09.BlameDiffers", spec := "blameDiffers", inPlace := ["internal/bytealg.abigen_runtime_cmpstring"], unfollowed := true, recurses := true, apart := false, narrowed := true }
def BlameDiffersUptoSaid : Prop := blameDiffersUptoRow.holds Tryz.pinned (OpenSpec.upto blameDiffersSpec)

/-- 'lemmarylaw09.BlameMarks', WHERE WHAT IT READS IS OF BULK AT MOST 1048576: true; the input reads as it did. -/
def blameMarksUptoRow : OpenClaim := { program := "ytlbjbmpkaniojaagreat", sum := "7525228e1714777ed2f3871a9a5d4145bad83f2cbc4f6e1d217fe0cc8eeae0b5", func := "lemmary/lemmarylaw09.BlameMarks", spec := "blameMarks", inPlace := ["internal/bytealg.abigen_runtime_cmpstring"], unfollowed := true, recurses := true, apart := false, narrowed := true }
def BlameMarksUptoSaid : Prop := blameMarksUptoRow.holds Tryz.pinned (OpenSpec.upto blameMarksSpec)

/-- 'lemmarylaw09.BlameMerges', WHERE WHAT IT READS IS OF BULK AT MOST 1048576: true; the input reads as it did. -/
def blameMergesUptoRow : OpenClaim := { program := "ytlbjbmpkaniojaagreat", sum := "7525228e1714777ed2f3871a9a5d4145bad83f2cbc4f6e1d217fe0cc8eeae0b5", func := "lemmary/lemmarylaw09.BlameMerges", spec := "blameMerges", inPlace := ["internal/bytealg.abigen_runtime_cmpstring"], unfollowed := true, recurses := true, apart := false, narrowed := true }
def BlameMergesUptoSaid : Prop := blameMergesUptoRow.holds Tryz.pinned (OpenSpec.upto blameMergesSpec)

/-- 'lemmarytop.TopUndone', WHERE WHAT IT READS IS OF BULK AT MOST 1048576: true; the input reads as it did. -/
def topUndoneUptoRow : OpenClaim := { program := "ytlbjbmpkaniojaagreat", sum := "7525228e1714777ed2f3871a9a5d4145bad83f2cbc4f6e1d217fe0cc8eeae0b5", func := "lemmary/lemmarytop.TopUndone", spec := "topUndone", inPlace := ["internal/bytealg.abigen_runtime_cmpstring"], unfollowed := true, recurses := true, apart := false, narrowed := true }
def TopUndoneUptoSaid : Prop := topUndoneUptoRow.holds Tryz.pinned (OpenSpec.upto topUndoneSpec)

end Rows
end Go.Proofs.YtlbjbmpkaniojaaGreat
