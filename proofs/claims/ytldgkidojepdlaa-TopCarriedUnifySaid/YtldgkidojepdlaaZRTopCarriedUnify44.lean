/-
  WHAT IT HOLDS: 'three values lie in a box' and how it is kept. Over any program. No condition.
-/
import Derived.Test.YtldgkidojepdlaaZRTopCarriedUnify5
namespace Go.Proofs.Ytldgkidojepdlaa
open Go Go.RowKit
/-- three values lie in the block b. -/
def Box3 (X : World) (b : Nat) (e0 e1 e2 : Value) : Prop := X.cell? ⟨b, 0, none⟩ = some e0 ∧ X.cell? ⟨b, 1, none⟩ = some e1 ∧ X.cell? ⟨b, 2, none⟩ = some e2
theorem Box3.below {X Y : World} {b : Nat} {e0 e1 e2 : Value} (h : Box3 X b e0 e1 e2) (hb : Below X.heap.size X Y) : Box3 Y b e0 e1 e2 :=
  ⟨(hb.cell (World.block_lt_of_cell? _ _ h.1)).trans h.1, (hb.cell (World.block_lt_of_cell? _ _ h.2.1)).trans h.2.1, (hb.cell (World.block_lt_of_cell? _ _ h.2.2)).trans h.2.2⟩
theorem Box3.new (w : World) (e0 e1 e2 : Value) (T : TypeId) : Box3 (w.alloc (.cells #[e0, e1, e2] T)) w.heap.size e0 e1 e2 := by
  refine ⟨?_, ?_, ?_⟩ <;> rw [World.cell?_alloc_new] <;> rfl
end Go.Proofs.Ytldgkidojepdlaa
