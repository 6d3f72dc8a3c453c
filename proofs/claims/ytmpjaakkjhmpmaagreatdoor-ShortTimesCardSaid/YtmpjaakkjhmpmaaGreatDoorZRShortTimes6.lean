/-
  WHAT IT HOLDS: from an input as the rows read it to the predicates that the walks use. Over any program.
  WHAT IT HOLDS: from an input as the rows read it to the predicates that the walks use: an array of three terms. Over any program.
-/
import Derived.SizedLaws
import Derived.ShutString
import Derived.Below
import Derived.ProofKit
import Derived.OpenShut
import Derived.Test.YtmpjaakkjhmpmaaGreatDoorChecked
import Derived.Deep.Slices
import Derived.Deep.SlicePairs
import Derived.Test.YtmpjaakkjhmpmaaGreatDoorZRShortTimes0
namespace Go.Proofs.YtmpjaakkjhmpmaaGreatDoor
open Go Go.RowKit Go.ChangeShapes Go.WideShapes Go.Deep
theorem laidOut : laidOutB Tryz.prog = true := by kernel_rfl
section
variable {H : Type} {enc : TypeId × Value → H} {P : Program} {w : World} {base : Nat} {held : Bool}

theorem spot_none {w : World} {b o : Nat} {spot : _} {u : Value} (h : w.cell? ((⟨b, o, spot⟩ : Addr).add 0) = some u) : spot = none := by
  simpa [Addr.add] using World.cell?_spot h
theorem cell_add {w : World} {b o n : Nat} {u : Value} (h : w.cell? ((⟨b, o, none⟩ : Addr).add n) = some u) : w.cell? ⟨b, o + n, none⟩ = some u := by
  rw [add_plain] at h; exact h
def Small (P : Program) (t : TypeId) (d : DataW H) : Prop := ∀ n ∈ d.weights P t, n ≤ reachBytes
theorem small_of {ts : List TypeId} {ds : List (DataW H)} (h : (DataW.weightsEach P ts ds).all (· ≤ reachBytes) = true) {j : Nat} {t : TypeId} {d : DataW H} (ht : ts[j]? = some t) (hd : ds[j]? = some d) : Small P t d := by
  intro n hn
  have := List.all_eq_true.1 h _ (DataW.weights_mem_each ht hd n hn)
  simpa using this
theorem Small.len {t e : TypeId} {l s : List (DataW H)} (h : Small P t (.slice l s)) (ht : P.underlying t = some (.slice e)) (he : 0 < P.bytesOf e) : l.length ≤ 140737488355328 := by
  have := h ((l.length + s.length) * P.bytesOf e) (by simp [DataW.weights, ht])
  have h2 : l.length + s.length ≤ (l.length + s.length) * P.bytesOf e := Nat.le_mul_of_pos_right _ he
  have h3 : reachBytes ≤ 140737488355328 := by decide
  omega
theorem Small.part {t : TypeId} {fs : Array Field} {ds : List (DataW H)} (h : Small P t (.agg ds)) (ht : P.underlying t = some (.struct fs)) {j : Nat} {f : Field} {d : DataW H} (hf : fs[j]? = some f) (hd : ds[j]? = some d) : Small P f.type d := by
  intro n hn
  refine h n ?_
  simp only [DataW.weights, ht]
  exact DataW.weights_mem_each (j := j) (by simp [hf]) hd n hn

end
end Go.Proofs.YtmpjaakkjhmpmaaGreatDoor
namespace Go.Proofs.YtmpjaakkjhmpmaaGreatDoor
open Go Go.RowKit Go.ChangeShapes Go.WideShapes Go.Deep
section
variable {H : Type} {enc : TypeId × Value → H} {P : Program} {w : World} {base : Nat} {held : Bool}
end
end Go.Proofs.YtmpjaakkjhmpmaaGreatDoor
