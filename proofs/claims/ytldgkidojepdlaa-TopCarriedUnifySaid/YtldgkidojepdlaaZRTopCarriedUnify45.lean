/-
  WHAT IT HOLDS: words that the walks of laws share: literals of terms, chains of worlds. Over any program. No condition.
-/
import Derived.Test.YtldgkidojepdlaaZRTopCarriedUnify5
namespace Go.Proofs.Ytldgkidojepdlaa
open Go Go.RowKit
theorem litT1 {w : World} {v0 : Value} {l0 : List Int} (h0 : Ints w v0 l0) (T : TypeId) : Terms (w.alloc (.cells #[v0] T)) (.slice (some ⟨w.heap.size, 0, none⟩) 1 1) [l0] := by
  have hb : Below w.heap.size w (w.alloc (.cells #[v0] T)) := (Below.refl _ _).alloc (Nat.le_refl _) _
  refine ⟨[v0], ?_, rfl, fun i u t h1' h2' => ?_⟩
  · refine ⟨rfl, _, _, rfl, Nat.le_refl _, by simp, (fun h => by cases h), fun j u hj => ⟨_, _, rfl, ?_⟩⟩
    rw [Nat.zero_add, World.cell?_alloc_new]
    simpa using hj
  · match i, h1', h2' with
    | 0, h1', h2' => simp at h1' h2'; subst h1'; subst h2'; exact h0.below hb
    | i + 1, h1', _ => simp at h1'
theorem litT2 {w : World} {v0 v1 : Value} {l0 l1 : List Int} (h0 : Ints w v0 l0) (h1 : Ints w v1 l1) (T : TypeId) : Terms (w.alloc (.cells #[v0, v1] T)) (.slice (some ⟨w.heap.size, 0, none⟩) 2 2) [l0, l1] := by
  have hb : Below w.heap.size w (w.alloc (.cells #[v0, v1] T)) := (Below.refl _ _).alloc (Nat.le_refl _) _
  refine ⟨[v0, v1], ?_, rfl, fun i u t h1' h2' => ?_⟩
  · refine ⟨rfl, _, _, rfl, Nat.le_refl _, by simp, (fun h => by cases h), fun j u hj => ⟨_, _, rfl, ?_⟩⟩
    rw [Nat.zero_add, World.cell?_alloc_new]
    simpa using hj
  · match i, h1', h2' with
    | 0, h1', h2' => simp at h1' h2'; subst h1'; subst h2'; exact h0.below hb
    | 1, h1', h2' => simp at h1' h2'; subst h1'; subst h2'; exact h1.below hb
    | i + 2, h1', _ => simp at h1'
theorem terms_nil (w : World) : Terms w (.slice none 0 0) [] := ⟨[], ⟨by simp, none, 0, rfl, Nat.le_refl _, by simp, fun _ => rfl, by simp⟩, rfl, by simp⟩
theorem chainL {P : Program} {f : FuncId} {args : Array Value} {WB W : World} {R : Ending → Prop} (hb : Below WB.heap.size WB W) (h : Calls P f args W fun e w' => R e ∧ Below W.heap.size W w') : Calls P f args W fun e w' => R e ∧ Below WB.heap.size WB w' :=
  h.mono fun _ _ ⟨h1, h2⟩ => ⟨h1, hb.trans (h2.mono hb.size)⟩
theorem chainD {P : Program} {f : FuncId} {args : Array Value} {WB W : World} {R : Ending → Prop} (hb : Below WB.heap.size WB W) (h : Calls P f args W fun e w' => R e ∧ ∃ n, w' = W.drewN n) : Calls P f args W fun e w' => R e ∧ Below WB.heap.size WB w' :=
  h.mono fun _ _ ⟨h1, n, h2⟩ => ⟨h1, by rw [h2]; exact below_drewN hb n⟩
theorem chainV {P : Program} {f : FuncId} {args : Array Value} {WB W : World} {R : Value → Ending → World → Prop} (hb : Below WB.heap.size WB W) (h : Calls P f args W fun e w' => ∃ u, R u e w' ∧ Below W.heap.size W w') : Calls P f args W fun e w' => ∃ u, R u e w' ∧ Below WB.heap.size WB w' :=
  h.mono fun _ _ ⟨u, h1, h2⟩ => ⟨u, h1, hb.trans (h2.mono hb.size)⟩
end Go.Proofs.Ytldgkidojepdlaa
