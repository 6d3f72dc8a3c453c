/-
  WHAT IT HOLDS: the plain law of groups of a shelf whose first statements are put behind the others. No program in sight. No condition.
-/
import Derived.Test.YtiacbdipagbblaaZRFindPermuted5
namespace Go.Proofs.Ytiacbdipagbblaa
open Go
theorem clsL_count {ks : List (List Int)} (x : List Int) : ∀ n, n ≤ ks.length → (clsL ks n x).length = (ks.take n).count x
  | 0, _ => by simp [clsL]
  | n + 1, h => by
    rw [clsL_succ (by omega), List.take_succ_eq_append_getElem (by omega), List.length_append, List.count_append, clsL_count x n (by omega)]
    by_cases e : ks[n] = x
    · rw [if_pos e, e]; simp
    · rw [if_neg e, List.count_singleton]; simp [e]
theorem hdsL_mem {ks : List (List Int)} {n : Nat} {x : List Int} : x ∈ hdsL ks n ↔ x ∈ ks.take n := by
  unfold hdsL; rw [dedF_mem]; simp
/-- one group is another one, moved. -/
def liesB (a b : List (List Int)) (k n : Int) (i j : Nat) : Bool := decide ((a.getD j []).length = (b.getD i []).length) && (b.getD i []).all fun x => decide ((x + k) % n ∈ a.getD j [])
/-- the same while the numbers of a group are gone through. -/
def liesM (a b : List (List Int)) (k n : Int) (i j m : Nat) : Bool := decide ((a.getD j []).length = (b.getD i []).length) && ((b.getD i []).take m).all fun x => decide ((x + k) % n ∈ a.getD j [])
theorem liesM_zero {a b : List (List Int)} {k n : Int} {i j : Nat} (hi : i < b.length) (hj : j < a.length) : liesM a b k n i j 0 = ((a[j].length : Int) == (b[i].length : Int)) := by
  unfold liesM
  simp only [List.take_zero, List.all_nil, Bool.and_true]
  rw [Bool.eq_iff_iff]
  simp only [List.getD_eq_getElem?_getD, hi, hj, List.getElem?_eq_getElem, Option.getD_some, decide_eq_true_eq, beq_iff_eq]
  omega
theorem liesM_succ {a b : List (List Int)} {k n : Int} {i j m : Nat} (hi : i < b.length) (hj : j < a.length) (hm : m < b[i].length) : liesM a b k n i j (m + 1) = (liesM a b k n i j m && decide ((b[i][m] + k) % n ∈ a[j])) := by
  have e1 : b.getD i [] = b[i] := by simp [List.getD, hi]
  have e2 : a.getD j [] = a[j] := by simp [List.getD, hj]
  unfold liesM
  rw [e1, e2, List.take_succ_eq_append_getElem hm, List.all_append, Bool.and_assoc]
  simp
theorem liesM_all {a b : List (List Int)} {k n : Int} {i j : Nat} (hi : i < b.length) : liesM a b k n i j b[i].length = liesB a b k n i j := by
  have e1 : b.getD i [] = b[i] := by simp [List.getD, hi]
  unfold liesM liesB
  rw [e1, List.take_of_length_le (Nat.le_refl _)]
theorem rotL_get {l : List (List Int)} {k m : Nat} (hk : k < l.length) (hm : m < l.length) : (l.drop k ++ l.take k)[m]? = l[(m + k) % l.length]? := by
  by_cases h : m < l.length - k
  · rw [List.getElem?_append_left (by rw [List.length_drop]; omega), List.getElem?_drop, Nat.mod_eq_of_lt (by omega), Nat.add_comm]
  · rw [List.getElem?_append_right (by rw [List.length_drop]; omega), List.getElem?_take, List.length_drop, if_pos (by omega)]
    have : (m + k) % l.length = m - (l.length - k) := by
      rw [Nat.mod_eq_sub_mod (by omega), Nat.mod_eq_of_lt (by omega)]
      omega
    rw [this]
theorem rotL_perm (l : List (List Int)) (k : Nat) : (l.drop k ++ l.take k).Perm l := by
  have h := List.perm_append_comm (l₁ := l.drop k) (l₂ := l.take k)
  rwa [List.take_append_drop] at h
theorem groups_rot {ks : List (List Int)} {k : Nat} (hk : k < ks.length) :
    (grpL ks ks.length).length = (grpL (ks.drop k ++ ks.take k) ks.length).length ∧
    ∀ i, i < (grpL (ks.drop k ++ ks.take k) ks.length).length → ∃ j, j < (grpL ks ks.length).length ∧ liesB (grpL ks ks.length) (grpL (ks.drop k ++ ks.take k) ks.length) k ks.length i j = true := by
  have hp := rotL_perm ks k
  have hl := hp.length_eq
  have hmem : ∀ x, x ∈ hdsL ks ks.length ↔ x ∈ hdsL (ks.drop k ++ ks.take k) ks.length := by
    intro x
    rw [hdsL_mem, hdsL_mem, List.take_of_length_le (Nat.le_refl _), List.take_of_length_le (by omega)]
    exact hp.mem_iff.symm
  have hperm : (hdsL ks ks.length).Perm (hdsL (ks.drop k ++ ks.take k) ks.length) := (List.perm_ext_iff_of_nodup (hdsL_nodup _ _) (hdsL_nodup _ _)).2 hmem
  refine ⟨by rw [grpL_len, grpL_len]; exact hperm.length_eq, fun i hi => ?_⟩
  rw [grpL_len] at hi
  have h1 : (hdsL (ks.drop k ++ ks.take k) ks.length)[i] ∈ hdsL ks ks.length := (hmem _).2 (List.getElem_mem hi)
  obtain ⟨j, hj, he⟩ := List.getElem_of_mem h1
  refine ⟨j, by rw [grpL_len]; exact hj, ?_⟩
  have e1 : (grpL ks ks.length).getD j [] = clsL ks ks.length (hdsL ks ks.length)[j] := by
    unfold grpL; simp [List.getD, hj]
  have e2 : (grpL (ks.drop k ++ ks.take k) ks.length).getD i [] = clsL (ks.drop k ++ ks.take k) ks.length (hdsL ks ks.length)[j] := by
    unfold grpL; simp [List.getD, hi, he]
  unfold liesB
  rw [e1, e2]
  simp only [Bool.and_eq_true, decide_eq_true_eq, List.all_eq_true]
  refine ⟨?_, fun x hx => ?_⟩
  · rw [clsL_count _ _ (Nat.le_refl _), clsL_count _ _ (by omega), List.take_of_length_le (Nat.le_refl _), List.take_of_length_le (by omega)]
    exact (hp.count_eq _).symm
  · obtain ⟨m, rfl, hm, hg⟩ := clsL_mem.1 hx
    rw [rotL_get hk hm] at hg
    exact clsL_mem.2 ⟨(m + k) % ks.length, by simp, Nat.mod_lt _ (by omega), hg⟩
theorem clsL_range {ks : List (List Int)} {n : Nat} {x : List Int} {y : Int} (h : y ∈ clsL ks n x) : 0 ≤ y ∧ y < n := by
  obtain ⟨k, rfl, hk, _⟩ := clsL_mem.1 h
  omega
theorem grpL_range {ks : List (List Int)} {n : Nat} {g : List Int} (h : g ∈ grpL ks n) : g.length ≤ n ∧ ∀ y ∈ g, 0 ≤ y ∧ y < n := by
  obtain ⟨x, _, rfl⟩ := List.mem_map.1 h
  exact ⟨clsL_len _ _ _, fun y hy => clsL_range hy⟩
/-- what Groups hands back. -/
def grpQ (f : List Int → List Int) (ok : Bool) (l : List (List Int)) : List (List Int) × Int := if ok then (grpL (l.map f) l.length, 0) else ([], 1)
theorem grpQ_len (f : List Int → List Int) (ok : Bool) (l : List (List Int)) : (grpQ f ok l).1.length ≤ l.length := by
  unfold grpQ; split
  · show (grpL _ _).length ≤ _
    rw [grpL_len]; exact hdsL_len _ _
  · simp
theorem grpQ_range {f : List Int → List Int} {ok : Bool} {l : List (List Int)} {g : List Int} (h : g ∈ (grpQ f ok l).1) : g.length ≤ l.length ∧ ∀ y ∈ g, 0 ≤ y ∧ y < l.length := by
  unfold grpQ at h
  split at h
  · exact grpL_range h
  · simp at h
theorem grpQ_rot {f : List Int → List Int} {ok : Bool} {l : List (List Int)} {k : Nat} (hk : k < l.length) :
    (grpQ f ok l).2 = (grpQ f ok (l.drop k ++ l.take k)).2 ∧ (grpQ f ok l).1.length = (grpQ f ok (l.drop k ++ l.take k)).1.length ∧
    ∀ i, i < (grpQ f ok (l.drop k ++ l.take k)).1.length → ∃ j, j < (grpQ f ok l).1.length ∧ liesB (grpQ f ok l).1 (grpQ f ok (l.drop k ++ l.take k)).1 k l.length i j = true := by
  cases ok
  · simp [grpQ]
  · have h := groups_rot (ks := l.map f) (k := k) (by simpa using hk)
    rw [List.length_map] at h
    have e : (l.drop k ++ l.take k).map f = (l.map f).drop k ++ (l.map f).take k := by simp
    have e2 : (l.drop k ++ l.take k).length = l.length := (rotL_perm l k).length_eq
    have q1 : grpQ f true l = (grpL (l.map f) l.length, 0) := rfl
    have q2 : grpQ f true (l.drop k ++ l.take k) = (grpL ((l.map f).drop k ++ (l.map f).take k) l.length, 0) := by
      unfold grpQ; rw [e, e2]; rfl
    rw [q1, q2]
    exact ⟨rfl, h⟩
end Go.Proofs.Ytiacbdipagbblaa
