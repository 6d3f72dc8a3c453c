/-
  WHAT IT HOLDS: the contract of With of package find. Conditions: the arguments read as data; at most 1000 names, terms and symbols.
-/
import Derived.Deep.RegionWith
import Derived.Test.YtldgkidojepdlaaGreatZRTopCarriedShelves9
namespace Go.Proofs.YtldgkidojepdlaaGreat
open Go Go.RowKit Go.Maps
theorem any_hasAll (q t : List Int) : (List.range q.length).any (fun i => !decide (q.getD i 0 ∈ t)) = !hasAllB q t := by
  rw [Bool.eq_iff_iff, List.any_eq_true]
  unfold hasAllB
  simp only [Bool.not_eq_true', List.all_eq_false]
  constructor
  · rintro ⟨i, hi, h⟩
    have hil : i < q.length := by simpa using hi
    rw [List.getD_eq_getElem?_getD, List.getElem?_eq_getElem hil] at h
    exact ⟨q[i], List.getElem_mem hil, by simpa using h⟩
  · rintro ⟨x, hx, h⟩
    obtain ⟨i, hi, rfl⟩ := List.getElem_of_mem hx
    refine ⟨i, by simpa using hi, ?_⟩
    rw [List.getD_eq_getElem?_getD, List.getElem?_eq_getElem hi]
    simpa using h
theorem any_symbols (s : Sg) (q : List Int) : (List.range q.length).any (fun i => !inB (q.getD i 0) 0 (s.length - 1)) = !q.all (fun n => inB n 0 (s.length - 1)) := by
  rw [Bool.eq_iff_iff, List.any_eq_true]
  simp only [Bool.not_eq_true', List.all_eq_false]
  constructor
  · rintro ⟨i, hi, h⟩
    have hil : i < q.length := by simpa using hi
    rw [List.getD_eq_getElem?_getD, List.getElem?_eq_getElem hil] at h
    exact ⟨q[i], List.getElem_mem hil, by simpa using h⟩
  · rintro ⟨x, hx, h⟩
    obtain ⟨i, hi, rfl⟩ := List.getElem_of_mem hx
    refine ⟨i, by simpa using hi, ?_⟩
    rw [List.getD_eq_getElem?_getD, List.getElem?_eq_getElem hi]
    simpa using h
theorem shelf_first {s : Sg} {l : List (List Int)} (h : shelfB s l = true) : ∃ h0 : 0 < l.length, termB s l[0] = true := by
  unfold shelfB at h
  simp only [Bool.and_eq_true] at h
  have h1 := inB_true.1 h.1.2
  have h0 : 0 < l.length := by omega
  refine ⟨h0, ?_⟩
  have := h.2
  unfold allB at this
  rw [List.all_eq_true] at this
  exact this _ (List.getElem_mem h0)

end Go.Proofs.YtldgkidojepdlaaGreat
