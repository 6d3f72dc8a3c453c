/-
  WHAT IT HOLDS: contract of Sorted of the reference of layer 6. Conditions: the argument reads as a list of names.
-/
import Derived.Laws.CopyOwn
import Derived.Deep.RegionLaw
import Derived.Sort.Walk0
import Derived.Test.YtlbjbmpkaniojaaGreatZRBlameMarks22
import Derived.Test.YtlbjbmpkaniojaaGreatZRBlameMarks13
import Derived.Test.YtlbjbmpkaniojaaGreatZRBlameMarks18
namespace Go.Proofs.YtlbjbmpkaniojaaGreat
open Go Go.RowKit Go.Maps
theorem bless (a b : Nm) : Op.bytesLess a.toList b.toList = decide (ltN a b) := by
  rw [Go.Proofs.bytesLess_eq, Lib.toList_data, Lib.toList_data]; rfl
theorem splice_get {α : Type} (L : List α) (off : Nat) (cs : List α) (h : off ≤ L.length) (j : Nat) : (splice L off cs)[j]? = if j < off then L[j]? else if j < off + cs.length then cs[j - off]? else L[j]? := by
  unfold splice
  have hl : (L.take off).length = off := by rw [List.length_take]; omega
  by_cases h1 : j < off
  · rw [if_pos h1, List.getElem?_append_left (by omega), List.getElem?_take, if_pos h1]
  · rw [if_neg h1, List.getElem?_append_right (by omega), hl]
    by_cases h2 : j < off + cs.length
    · rw [if_pos h2, List.getElem?_append_left (by omega)]
    · rw [if_neg h2, List.getElem?_append_right (by omega), List.getElem?_drop]
      congr 1
      omega
theorem splice_take {α : Type} {L xs cs : List α} {n off : Nat} (h : L.take n = xs) (hn : n ≤ L.length) (ho : off + cs.length ≤ n) : (splice L off cs).take n = splice xs off cs := by
  subst h
  have hl : (L.take n).length = n := by rw [List.length_take]; omega
  apply List.ext_getElem?
  intro j
  rw [List.getElem?_take, splice_get _ _ _ (by omega), splice_get _ _ _ (by omega), List.getElem?_take]
  by_cases h1 : j < n
  · rw [if_pos h1, if_pos h1]
  · rw [if_neg h1, if_neg (by omega), if_neg (by omega), if_neg h1]
end Go.Proofs.YtlbjbmpkaniojaaGreat
