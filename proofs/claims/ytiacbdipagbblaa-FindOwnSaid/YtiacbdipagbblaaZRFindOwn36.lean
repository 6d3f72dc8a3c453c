/-
  WHAT IT HOLDS: a slice of slices of the caller's, parted at an index, the parts joined the other way round in new memory. Over any program. No condition.
-/
import Derived.Test.YtiacbdipagbblaaZRFindOwn0
namespace Go.Proofs.Ytiacbdipagbblaa
open Go Go.RowKit
/-- the elements from an index on. -/
theorem RowK.fromK {w : World} {b o n cap : Nat} {xs : List Value} (h : RowK w (.slice (some ⟨b, o, none⟩) n cap) 1 n xs) {k : Nat} (hk : k ≤ n) : RowK w (.slice (some ⟨b, o + k, none⟩) (n - k) (cap - k)) 1 (n - k) (xs.drop k) := by
  obtain ⟨h1, a, c, h2, h3, h4, h5, h6⟩ := h
  simp only [Value.slice.injEq] at h2
  obtain ⟨rfl, _, rfl⟩ := h2
  refine ⟨by rw [List.length_drop]; omega, _, _, rfl, by omega, by omega, (fun h => by cases h), fun j u hj => ?_⟩
  rw [List.getElem?_drop] at hj
  obtain ⟨b', o', h7, h8⟩ := h6 _ _ hj
  simp only [Option.some.injEq, Addr.mk.injEq, and_true] at h7
  obtain ⟨rfl, rfl⟩ := h7
  exact ⟨_, _, rfl, by rw [Nat.add_assoc]; exact h8⟩
/-- the first elements. -/
theorem RowK.upToK {w : World} {b o n cap : Nat} {xs : List Value} (h : RowK w (.slice (some ⟨b, o, none⟩) n cap) 1 n xs) {k : Nat} (hk : k ≤ n) : RowK w (.slice (some ⟨b, o, none⟩) k cap) 1 k (xs.take k) := by
  obtain ⟨h1, a, c, h2, h3, h4, h5, h6⟩ := h
  simp only [Value.slice.injEq] at h2
  obtain ⟨rfl, _, rfl⟩ := h2
  refine ⟨by rw [List.length_take]; omega, _, _, rfl, by omega, by omega, (fun h => by cases h), fun j u hj => ?_⟩
  rw [List.getElem?_take] at hj
  split at hj
  · exact h6 _ _ hj
  · cases hj
/-- a slice of terms that is told of anew: its slices those of the caller's, in another order. -/
theorem TermsV.rot {w w' : World} {v u : Value} {vs : List Value} {l : List (List Int)} (h : TermsV w v vs l) (hb : Below w.heap.size w w') {k : Nat} {base : Nat} {e : TypeId} {n : Nat} (hn : n = l.length)
    (ho : w'.ownsRow base e 1 u n (vs.drop k ++ vs.take k)) (hl : l.length ≤ 140737488355328) : TermsV w' u (vs.drop k ++ vs.take k) (l.drop k ++ l.take k) := by
  subst hn
  have hlen := h.2.1
  have hln : (vs.drop k ++ vs.take k).length = l.length := by rw [List.length_append, List.length_drop, List.length_take]; omega
  refine ⟨?_, ?_, fun i x t h1 h2 => ?_⟩
  · unfold Vals
    rw [hln]
    exact RowK.of_owns ho hl
  · rw [hln, List.length_append, List.length_drop, List.length_take]; omega
  · have hd : (vs.drop k).length = (l.drop k).length := by rw [List.length_drop, List.length_drop, hlen]
    by_cases hi : i < (vs.drop k).length
    · rw [List.getElem?_append_left hi, List.getElem?_drop] at h1
      rw [List.getElem?_append_left (by omega), List.getElem?_drop] at h2
      exact (h.2.2 _ _ _ h1 h2).below hb
    · rw [List.getElem?_append_right (by omega), List.getElem?_take] at h1
      rw [List.getElem?_append_right (by omega), List.getElem?_take] at h2
      rw [hd] at h1
      split at h1
      · rename_i hlt
        rw [if_pos hlt] at h2
        exact (h.2.2 _ _ _ h1 h2).below hb
      · cases h1
theorem TermsV.one {w : World} {v : Value} {vs : List Value} {l : List (List Int)} (h : TermsV w v vs l) : ∀ u ∈ vs, u.oneCell' = true := fun u hu => by
  obtain ⟨i, hi, rfl⟩ := List.getElem_of_mem hu
  have hl : i < l.length := by rw [← h.2.1]; exact hi
  obtain ⟨a, c, he, -⟩ := (h.2.2 i _ _ (List.getElem?_eq_getElem hi) (List.getElem?_eq_getElem hl)).open
  rw [he]; rfl
theorem rot_mem {l : List (List Int)} {k : Nat} (t : List Int) : t ∈ l ↔ t ∈ l.drop k ++ l.take k := by
  rw [List.mem_append, or_comm, ← List.mem_append, List.take_append_drop]
theorem rot_len {l : List (List Int)} {k : Nat} : l.length = (l.drop k ++ l.take k).length := by
  rw [List.length_append, Nat.add_comm, ← List.length_append, List.take_append_drop]
/-- an index told by a number, brought into a list. -/
theorem rot_num (a : Int) {n : Nat} (hn : 0 < n) : ∃ (r : Int) (k : Nat), Int.tmod a n = r ∧ -(n : Int) < r ∧ r < n ∧ 0 ≤ r + n ∧ r + n < 2 * n ∧ (r + n) % n = (k : Int) ∧ (r + n).tmod n = (k : Int) ∧ k < n := by
  have h1 : -(n : Int) < Int.tmod a n := Int.lt_tmod_of_pos a (by omega)
  have h2 : Int.tmod a n < n := Int.tmod_lt_of_pos a (by omega)
  have h3 : 0 ≤ (Int.tmod a n + n) % n := Int.emod_nonneg _ (by omega)
  have h4 : (Int.tmod a n + n) % n < n := Int.emod_lt_of_pos _ (by omega)
  obtain ⟨k, hk⟩ := Int.eq_ofNat_of_zero_le h3
  refine ⟨_, k, rfl, h1, h2, by omega, by omega, hk, ?_, by omega⟩
  rw [Int.tmod_eq_emod_of_nonneg (by omega)]
  exact hk
end Go.Proofs.Ytiacbdipagbblaa
