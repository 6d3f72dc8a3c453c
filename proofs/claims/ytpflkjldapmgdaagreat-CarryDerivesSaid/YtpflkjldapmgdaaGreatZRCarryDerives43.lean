/-
  WHAT IT HOLDS: contract of Sorted of the reference of layer 6. Conditions: the argument reads as a list of names.
-/
import Derived.Laws.CopyOwn
import Derived.Deep.RegionLaw
import Derived.Sort.Walk0
import Derived.Test.YtpflkjldapmgdaaGreatZRCarryDerives19
import Derived.Test.YtpflkjldapmgdaaGreatZRCarryDerives25
import Derived.Test.YtpflkjldapmgdaaGreatZRCarryDerives5
import Derived.Test.YtpflkjldapmgdaaGreatZRCarryDerives18
import Derived.Test.YtpflkjldapmgdaaGreatZRCarryDerives36
namespace Go.Proofs.YtpflkjldapmgdaaGreat
open Go Go.RowKit Go.Maps
theorem splice_get {α : Type} (L : List α) (off : Nat) (cs : List α) (h : off ≤ L.length) (j : Nat) : (splice L off cs)[j]? = if j < off then L[j]? else if j < off + cs.length then cs[j - off]? else L[j]? := by
  unfold splice
  have hl : (L.take off).length = off := by rw [List.length_take]; omega
  by_cases h1 : j < off
  · rw [if_pos h1, List.getElem?_append_left (by omega), List.getElem?_take, if_pos h1]
  · rw [if_neg h1, List.getElem?_append_right (by omega), hl]
    by_cases h2 : j < off + cs.length
    · rw [if_pos h2, List.getElem?_append_left (by omega)]
    · rw [if_neg h2, List.getElem?_append_right (by omega), List.getElem?_drop]
      congr 1
      omega
/-- the row behind a copy by one place and a store. -/
theorem ins_row {α : Type} (O : List α) (e x : α) {k : Nat} (hk : k ≤ O.length) : (splice (O ++ [e]) (k + 1) (O.drop k)).set k x = O.take k ++ x :: O.drop k := by
  have hl : (O.take k).length = k := by rw [List.length_take]; omega
  have hd : (O.drop k).length = O.length - k := List.length_drop
  have hlen : (O ++ [e]).length = O.length + 1 := by simp
  have hsl : (splice (O ++ [e]) (k + 1) (O.drop k)).length = O.length + 1 := by rw [length_splice _ _ _ (by rw [hlen, hd]; omega), hlen]
  apply List.ext_getElem?
  intro j
  rw [List.getElem?_set]
  by_cases hjk : k = j
  · subst hjk
    rw [if_pos rfl, if_pos (by omega), List.getElem?_append_right (by omega), hl, Nat.sub_self]
    rfl
  · rw [if_neg hjk, splice_get _ _ _ (by omega), hd]
    by_cases h : j < k + 1
    · rw [if_pos h, List.getElem?_append_left (by omega), List.getElem?_append_left (by omega), List.getElem?_take, if_pos (by omega)]
    · rw [if_neg h, List.getElem?_append_right (l₁ := O.take k) (by omega), hl]
      obtain ⟨d, hd'⟩ : ∃ d, j = k + 1 + d := ⟨j - (k + 1), by omega⟩
      subst hd'
      have e1 : k + 1 + d - (k + 1) = d := by omega
      have e2 : k + 1 + d - k = d + 1 := by omega
      rw [e1, e2, List.getElem?_cons_succ]
      split
      · rfl
      · rw [List.getElem?_eq_none (by omega), List.getElem?_eq_none (by omega)]
theorem splice_take {α : Type} {L xs cs : List α} {n off : Nat} (h : L.take n = xs) (hn : n ≤ L.length) (ho : off + cs.length ≤ n) : (splice L off cs).take n = splice xs off cs := by
  subst h
  have hl : (L.take n).length = n := by rw [List.length_take]; omega
  apply List.ext_getElem?
  intro j
  rw [List.getElem?_take, splice_get _ _ _ (by omega), splice_get _ _ _ (by omega), List.getElem?_take]
  by_cases h1 : j < n
  · rw [if_pos h1, if_pos h1]
  · rw [if_neg h1, if_neg (by omega), if_neg (by omega), if_neg h1]
/-- the cells of a row of the call's own. -/
theorem own_cells {w : World} {base g n cap : Nat} {e : TypeId} {xs : List Value} (h : w.ownsRow base e 1 (.slice (some ⟨g, 0, none⟩) n cap) n xs) : ∃ cur : List Value, w.heap[g]? = some (.cells cur.toArray e (0, 0)) ∧ cur.take n = xs ∧ n ≤ cur.length ∧ cur.length = cap ∧ cap ≤ maxLen ∧ base ≤ g := by
  rcases h.2 with ⟨h', _⟩ | ⟨g', cap', cur, h', hb, hg, hnc, hcm, hcs, htake⟩
  · simp at h'
  · simp only [Value.slice.injEq, Option.some.injEq, Addr.mk.injEq, and_true, true_and] at h'
    obtain ⟨rfl, rfl⟩ := h'
    exact ⟨cur.toList, by simpa using hg, by simpa using htake, by simp; omega, by simp; omega, hcm, hb⟩
theorem own_of_cells {w : World} {base g n cap : Nat} {e : TypeId} {cur : List Value} (hg : w.heap[g]? = some (.cells cur.toArray e (0, 0))) (hn : n ≤ cur.length) (hc : cur.length = cap) (hm : cap ≤ maxLen) (hb : base ≤ g) : w.ownsRow base e 1 (.slice (some ⟨g, 0, none⟩) n cap) n (cur.take n) :=
  ⟨by simp; omega, .inr ⟨g, cap, cur.toArray, rfl, hb, hg, by omega, hm, by simp; omega, by simp⟩⟩
end Go.Proofs.YtpflkjldapmgdaaGreat
