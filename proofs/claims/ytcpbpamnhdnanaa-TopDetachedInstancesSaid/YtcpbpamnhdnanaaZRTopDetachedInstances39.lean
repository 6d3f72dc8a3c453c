/-
  WHAT IT HOLDS: contracts of Variable, Match and Instance of the reference of layer 2. Conditions: the arguments read as data.
-/
import Derived.WalkSpells
import Derived.Test.YtcpbpamnhdnanaaZRTopDetachedInstances38
import Derived.Test.YtcpbpamnhdnanaaZRTopDetachedInstances26
namespace Go.Proofs.Ytcpbpamnhdnanaa
open Go Go.RowKit Go.Maps
/-- the binds that a match tells. -/
def bindL (m : MM) (k : Nat) : List (Nat × List Int) := (List.range k).filterMap fun (v : Nat) => match m (-(v : Int) - 1) with | some l => if l = [-(v : Int) - 1] then none else some (v, l) | none => none
theorem bindL_succ (m : MM) (k : Nat) : bindL m (k + 1) = bindL m k ++ match m (-(k : Int) - 1) with | some l => if l = [-(k : Int) - 1] then [] else [(k, l)] | none => [] := by
  unfold bindL
  rw [List.range_succ, List.filterMap_append]
  congr 1
  cases h : m (-(k : Int) - 1) with
  | none => simp [h]
  | some l =>
    simp only [List.filterMap_cons, List.filterMap_nil, h]
    by_cases e : l = [-(k : Int) - 1] <;> simp [e]
theorem bindL_len (m : MM) (k : Nat) : (bindL m k).length ≤ k := by
  unfold bindL
  exact Nat.le_trans (List.length_filterMap_le _ _) (by simp)
abbrev BT := Nat × Value × List Int
def bCells (bs : List BT) : List Value := bs.flatMap fun b => [.int .i64 b.1, b.2.1]
def bPure (bs : List BT) : List (Nat × List Int) := bs.map fun b => (b.1, b.2.2)
theorem el_bind : ElemAt Try.prog 78 (.agg #[.int .i64 0, .slice none 0 0]) 2 32 := by unfold ElemAt; kernel_rfl
theorem row_two_new (w : World) (x y : Value) (t : TypeId) : RowK (w.alloc (.cells #[x, y] t)) (.slice (some ⟨w.heap.size, 0, none⟩) 1 1) 2 1 [x, y] := by
  refine ⟨rfl, _, _, rfl, Nat.le_refl _, by omega, (fun h => by cases h), fun j u hj => ⟨_, _, rfl, ?_⟩⟩
  rw [World.cell?_alloc_new]
  match j, hj with
  | 0, hj => simpa using hj
  | 1, hj => simpa using hj
  | j + 2, hj => simp at hj
theorem arr12 (w : World) (ty : TypeId) : ArrT (w.alloc (.cells #[.slice none 0 0, .slice none 0 0, .slice none 0 0, .slice none 0 0, .slice none 0 0, .slice none 0 0, .slice none 0 0, .slice none 0 0, .slice none 0 0, .slice none 0 0, .slice none 0 0, .slice none 0 0] ty)) w.heap.size 0 12 (fun _ => none) := by
  refine ⟨_, ty, (MapKept.heap_alloc w _).1, fun i u hi => ?_, fun v hv => ⟨?_, fun _ _ h => by cases h⟩⟩
  · have hm := Array.mem_of_getElem? hi
    simp at hm
    exact ⟨_, _, _, hm⟩
  · match v, hv with
    | 0, _ => rfl
    | 1, _ => rfl
    | 2, _ => rfl
    | 3, _ => rfl
    | 4, _ => rfl
    | 5, _ => rfl
    | 6, _ => rfl
    | 7, _ => rfl
    | 8, _ => rfl
    | 9, _ => rfl
    | 10, _ => rfl
    | 11, _ => rfl
    | v + 12, h => omega
theorem mR_none : mR (fun _ => none) = noM := by
  funext x
  unfold mR noM
  split <;> rfl
end Go.Proofs.Ytcpbpamnhdnanaa
