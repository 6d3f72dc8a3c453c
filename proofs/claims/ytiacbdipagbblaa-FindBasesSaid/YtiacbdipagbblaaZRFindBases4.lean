/-
  WHAT IT HOLDS: plain facts on grouping a list by equal elements. No program in sight. No condition.
-/
import Derived.Test.YtiacbdipagbblaaZRFindBases3
namespace Go.Proofs.Ytiacbdipagbblaa

/-- the different elements, in the order in which they come, behind those met. -/
def dedF : List (List Int) → List (List Int) → List (List Int)
  | hs, [] => hs
  | hs, k :: r => if k ∈ hs then dedF hs r else dedF (hs ++ [k]) r
theorem dedF_append (hs a b : List (List Int)) : dedF hs (a ++ b) = dedF (dedF hs a) b := by
  induction a generalizing hs with
  | nil => rfl
  | cons n a ih => simp only [List.cons_append, dedF]; split <;> exact ih _
theorem dedF_mem : ∀ (a hs : List (List Int)) (x : List Int), x ∈ dedF hs a ↔ x ∈ hs ∨ x ∈ a
  | [], hs, x => by simp [dedF]
  | n :: a, hs, x => by
    unfold dedF
    split
    · rename_i h
      rw [dedF_mem a]
      simp only [List.mem_cons]
      constructor
      · rintro (h1 | h1)
        · exact Or.inl h1
        · exact Or.inr (Or.inr h1)
      · rintro (h1 | rfl | h1)
        · exact Or.inl h1
        · exact Or.inl h
        · exact Or.inr h1
    · rw [dedF_mem a]
      simp only [List.mem_append, List.mem_cons, List.not_mem_nil, or_false, or_assoc]
theorem dedF_nodup : ∀ (a hs : List (List Int)), hs.Nodup → (dedF hs a).Nodup
  | [], hs, h => h
  | n :: a, hs, h => by
    unfold dedF
    split
    · exact dedF_nodup a hs h
    · rename_i h1
      refine dedF_nodup a _ ?_
      rw [List.nodup_append]
      refine ⟨h, by simp, ?_⟩
      intro x hx y hy
      simp at hy
      subst hy
      intro e
      subst e
      exact h1 hx
def hdsL (ks : List (List Int)) (n : Nat) : List (List Int) := dedF [] (ks.take n)
/-- the places of an element. -/
def clsL (ks : List (List Int)) (n : Nat) (h : List Int) : List Int := ((List.range n).filter fun i => decide (ks[i]? = some h)).map fun (i : Nat) => (i : Int)
def grpL (ks : List (List Int)) (n : Nat) : List (List Int) := (hdsL ks n).map (clsL ks n)
theorem hdsL_succ {ks : List (List Int)} {n : Nat} (h : n < ks.length) : hdsL ks (n + 1) = if ks[n] ∈ hdsL ks n then hdsL ks n else hdsL ks n ++ [ks[n]] := by
  unfold hdsL
  rw [List.take_succ_eq_append_getElem h, dedF_append]
  simp only [dedF]
theorem clsL_succ {ks : List (List Int)} {n : Nat} (h : n < ks.length) (x : List Int) : clsL ks (n + 1) x = clsL ks n x ++ if ks[n] = x then [(n : Int)] else [] := by
  unfold clsL
  rw [List.range_succ, List.filter_append, List.map_append]
  congr 1
  by_cases e : ks[n] = x
  · rw [if_pos e]
    simp [h, e]
  · rw [if_neg e]
    simp [h, e]
theorem clsL_none {ks : List (List Int)} {n : Nat} {x : List Int} (h : x ∉ hdsL ks n) : clsL ks n x = [] := by
  unfold clsL
  rw [List.map_eq_nil_iff, List.filter_eq_nil_iff]
  intro i hi he
  have hi' := List.mem_range.1 hi
  have he' := of_decide_eq_true he
  apply h
  unfold hdsL
  rw [dedF_mem]
  right
  rw [List.mem_iff_getElem?]
  exact ⟨i, by rw [List.getElem?_take, if_pos hi']; exact he'⟩
theorem clsL_ne {ks : List (List Int)} {n : Nat} (hn : n ≤ ks.length) {x : List Int} (h : x ∈ hdsL ks n) : clsL ks n x ≠ [] := by
  unfold hdsL at h
  rw [dedF_mem] at h
  rcases h with h | h
  · simp at h
  · rw [List.mem_iff_getElem?] at h
    obtain ⟨i, hi⟩ := h
    rw [List.getElem?_take] at hi
    split at hi
    · rename_i hin
      intro e
      unfold clsL at e
      rw [List.map_eq_nil_iff, List.filter_eq_nil_iff] at e
      exact e i (List.mem_range.2 hin) (by simpa using hi)
    · cases hi
theorem clsL_mem {ks : List (List Int)} {n : Nat} {x : List Int} {i : Int} : i ∈ clsL ks n x ↔ ∃ k : Nat, i = k ∧ k < n ∧ ks[k]? = some x := by
  unfold clsL
  simp only [List.mem_map, List.mem_filter, List.mem_range, decide_eq_true_eq]
  constructor
  · rintro ⟨k, ⟨h1, h2⟩, rfl⟩; exact ⟨k, rfl, h1, h2⟩
  · rintro ⟨k, rfl, h1, h2⟩; exact ⟨k, ⟨h1, h2⟩, rfl⟩
theorem clsL_len (ks : List (List Int)) (n : Nat) (x : List Int) : (clsL ks n x).length ≤ n := by
  unfold clsL
  rw [List.length_map]
  exact Nat.le_trans (List.length_filter_le _ _) (by simp)
theorem grpL_len (ks : List (List Int)) (n : Nat) : (grpL ks n).length = (hdsL ks n).length := by simp [grpL]
theorem hdsL_len (ks : List (List Int)) (n : Nat) : (hdsL ks n).length ≤ n := by
  have key : ∀ (a hs : List (List Int)), (dedF hs a).length ≤ hs.length + a.length := by
    intro a
    induction a with
    | nil => intro hs; simp [dedF]
    | cons k a ih =>
      intro hs
      simp only [dedF]
      split
      · have := ih hs; simp; omega
      · have := ih (hs ++ [k]); simp at this ⊢; omega
  have := key (ks.take n) []
  simp at this
  unfold hdsL
  omega
theorem hdsL_nodup (ks : List (List Int)) (n : Nat) : (hdsL ks n).Nodup := dedF_nodup _ _ (by simp)
theorem grpL_new {ks : List (List Int)} {n : Nat} (h : n < ks.length) (hx : ks[n] ∉ hdsL ks n) : grpL ks (n + 1) = grpL ks n ++ [[(n : Int)]] := by
  unfold grpL
  rw [hdsL_succ h, if_neg hx, List.map_append]
  congr 1
  · apply List.map_congr_left
    intro y hy
    rw [clsL_succ h, if_neg (fun (e : ks[n] = y) => hx (by rw [e]; exact hy)), List.append_nil]
  · simp only [List.map_cons, List.map_nil]
    rw [clsL_succ h, if_pos rfl, clsL_none hx]
    rfl
theorem grpL_old {ks : List (List Int)} {n : Nat} (h : n < ks.length) (hx : ks[n] ∈ hdsL ks n) {j : Nat} (hj : (hdsL ks n).idxOf ks[n] = j) (hjl : j < (grpL ks n).length) :
    grpL ks (n + 1) = (grpL ks n).set j ((grpL ks n)[j] ++ [(n : Int)]) := by
  have hjh : j < (hdsL ks n).length := by rw [grpL_len] at hjl; exact hjl
  have hjx : (hdsL ks n)[j] = ks[n] := by subst hj; simp
  apply List.ext_getElem?
  intro i
  unfold grpL
  rw [hdsL_succ h, if_pos hx, List.getElem?_map]
  by_cases hij : i = j
  · subst hij
    rw [List.getElem?_set_self (by simpa using hjh)]
    simp only [List.getElem_map, List.getElem?_eq_getElem hjh, Option.map_some]
    rw [clsL_succ h, if_pos hjx.symm]
    simp only [Option.some.injEq, List.append_cancel_right_eq]
    exact (List.getElem_map _).symm
  · rw [List.getElem?_set_ne (by omega), List.getElem?_map]
    cases hq : (hdsL ks n)[i]? with
    | none => rfl
    | some y =>
      simp only [Option.map_some]
      have hne : ks[n] ≠ y := by
        intro e
        subst e
        have h1 := (List.getElem?_eq_some_iff.1 hq)
        obtain ⟨h1, h2⟩ := h1
        have e1 := List.Nodup.idxOf_getElem (hdsL_nodup ks n) i h1
        rw [h2, hj] at e1
        exact hij e1.symm
      rw [clsL_succ h, if_neg hne, List.append_nil]
/-- the first of a group tells its head. -/
theorem grpL_first {ks : List (List Int)} {n : Nat} (hn : n ≤ ks.length) {j : Nat} (hj : j < (grpL ks n).length) : ∃ (hjh : j < (hdsL ks n).length) (k : Nat), (grpL ks n)[j].head? = some (k : Int) ∧ k < n ∧ ks[k]? = some (hdsL ks n)[j] := by
  have hjh : j < (hdsL ks n).length := by rw [grpL_len] at hj; exact hj
  refine ⟨hjh, ?_⟩
  have e : (grpL ks n)[j] = clsL ks n (hdsL ks n)[j] := by simp [grpL]
  rw [e]
  have hne := clsL_ne hn (List.getElem_mem hjh)
  cases hc : clsL ks n (hdsL ks n)[j] with
  | nil => exact absurd hc hne
  | cons a r =>
    have : a ∈ clsL ks n (hdsL ks n)[j] := by rw [hc]; simp
    obtain ⟨k, rfl, h1, h2⟩ := clsL_mem.1 this
    exact ⟨k, rfl, h1, h2⟩
end Go.Proofs.Ytiacbdipagbblaa
