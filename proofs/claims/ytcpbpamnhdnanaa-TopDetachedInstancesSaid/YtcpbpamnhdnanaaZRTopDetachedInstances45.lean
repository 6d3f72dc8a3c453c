/-
  WHAT IT HOLDS: from an input as the rows read it to the predicates that the walks use: an array of three terms. Over any program.
-/
import Derived.Test.YtcpbpamnhdnanaaZRTopDetachedInstances44
namespace Go.Proofs.Ytcpbpamnhdnanaa
open Go Go.RowKit Go.ChangeShapes Go.WideShapes Go.Deep
section
variable {H : Type} {enc : TypeId × Value → H} {P : Program} {w : World} {base : Nat} {held : Bool}
theorem Small.item {t e : TypeId} {n : Nat} {l : List (DataW H)} (h : Small P t (.agg l)) (ht : P.underlying t = some (.array n e)) {d : DataW H} (hd : d ∈ l) : Small P e d := by
  intro q hq
  refine h q ?_
  simp only [DataW.weights, ht]
  exact mem_weightsAll hd hq
/-- an array of three slices of numbers. -/
theorem terms3_of_trod {t e q : TypeId} {fuel : Nat} {cs : List Value} {x : DataW H × List MemPlace} (ht : P.underlying t = some (.array 3 e)) (he : P.underlying e = some (.slice q)) (hq : P.underlying q = some (.int .i64))
    (ct : P.cellsOf t = 3) (ce : P.cellsOf e = 1) (cq : P.cellsOf q = 1) (bq : 0 < P.bytesOf q)
    (h : DataW.trod enc P w base (fun _ => true) held fuel t cs = some x) (hs : Small P t x.1) : ∃ v0 v1 v2 l0 l1 l2, cs = [v0, v1, v2] ∧ Ints w v0 l0 ∧ Ints w v1 l1 ∧ Ints w v2 l2 := by
  obtain ⟨xs, m, -, rfl, hl, hn, hx⟩ := DataW.trod_array ht h
  rw [ct] at hl
  match cs, hl with
  | [v0, v1, v2], _ =>
    have one : ∀ (i : Nat) (v : Value), i < 3 → ([v0, v1, v2].drop i).take 1 = [v] → ∃ l, Ints w v l := by
      intro i v hi hv
      have h1 := hx i hi
      rw [ce, Nat.mul_one, hv] at h1
      have hi' : i < xs.length := by omega
      rw [List.getElem?_eq_getElem hi'] at h1
      have hsm : Small P e (xs[i]).1 := hs.item ht (List.mem_map.2 ⟨xs[i], List.getElem_mem hi', rfl⟩)
      obtain ⟨u, l, h3, h4, _⟩ := ints_of_trod he hq cq bq h1 hsm
      simp only [List.cons.injEq, and_true] at h3
      exact ⟨l, h3 ▸ h4⟩
    obtain ⟨l0, h0⟩ := one 0 v0 (by omega) rfl
    obtain ⟨l1, h1⟩ := one 1 v1 (by omega) rfl
    obtain ⟨l2, h2⟩ := one 2 v2 (by omega) rfl
    exact ⟨v0, v1, v2, l0, l1, l2, rfl, h0, h1, h2⟩
theorem okWide_array {r : Reach} {b0 : Nat} {t e : TypeId} {n : Nat} {v : Value} (ht : P.underlying t = some (.array n e)) (h : Value.okWide P w r b0 t v) : ∃ cs, v = .agg cs := by
  unfold Value.okWide at h
  rw [ht] at h
  obtain ⟨cs, h, _⟩ := h
  exact ⟨cs, h⟩
end
theorem terms_lit3 {w : World} {v0 v1 v2 : Value} {l0 l1 l2 : List Int} (h0 : Ints w v0 l0) (h1 : Ints w v1 l1) (h2 : Ints w v2 l2) (T : TypeId) : Terms (w.alloc (.cells #[v0, v1, v2] T)) (.slice (some ⟨w.heap.size, 0, none⟩) 3 3) [l0, l1, l2] := by
  have hb : Below w.heap.size w (w.alloc (.cells #[v0, v1, v2] T)) := (Below.refl _ _).alloc (Nat.le_refl _) _
  refine ⟨[v0, v1, v2], ?_, rfl, fun i u t h1' h2' => ?_⟩
  · refine ⟨rfl, _, _, rfl, Nat.le_refl _, by simp, (fun h => by cases h), fun j u hj => ⟨_, _, rfl, ?_⟩⟩
    rw [Nat.zero_add, World.cell?_alloc_new]
    simpa using hj
  · match i, h1', h2' with
    | 0, h1', h2' => simp at h1' h2'; subst h1'; subst h2'; exact h0.below hb
    | 1, h1', h2' => simp at h1' h2'; subst h1'; subst h2'; exact h1.below hb
    | 2, h1', h2' => simp at h1' h2'; subst h1'; subst h2'; exact h2.below hb
    | i + 3, h1', _ => simp at h1'
end Go.Proofs.Ytcpbpamnhdnanaa
