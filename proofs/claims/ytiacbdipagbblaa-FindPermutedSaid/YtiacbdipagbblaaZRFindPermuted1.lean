/-
  WHAT IT HOLDS: the plain law that package term's way to find a term's end and the reference's count of terms that are wanted agree. No program in sight. Condition: a valid sign, a list of 1 to 60 numbers.
-/
import Derived.Test.YtiacbdipagbblaaZRFindPermuted0
namespace Go.Proofs.Ytiacbdipagbblaa

theorem signB_ar' {s : Sg} (h : signB s = true) (n : Int) : 0 ≤ arOf s n ∧ arOf s n ≤ 3 := by
  unfold signB at h
  simp only [Bool.and_eq_true] at h
  have h3 := h.2
  rw [List.all_eq_true] at h3
  unfold arOf
  split
  · omega
  · split
    · rename_i x hx
      have hlt : n.toNat < s.length := (List.getElem?_eq_some_iff.1 hx).1
      have := h3 n.toNat (by simpa using hlt)
      unfold symB at this
      rw [hx] at this
      simp only [Bool.and_eq_true] at this
      exact inB_true.1 this.1.2
    · omega

def itI (g : Int → Int) : Nat → Int → Int
  | 0, i => i
  | k + 1, i => g (itI g k i)
theorem itI_front (g : Int → Int) (k : Nat) : ∀ i, itI g (k + 1) i = itI g k (g i) := by
  induction k with
  | zero => intro i; rfl
  | succ k ih => intro i; rw [itI, ih]; rfl
theorem itI_add (g : Int → Int) (a b : Nat) : ∀ i, itI g (a + b) i = itI g b (itI g a i) := by
  intro i
  induction b with
  | zero => rfl
  | succ b ih => rw [← Nat.add_assoc]; simp only [itI]; rw [ih]
theorem endIter_fst (F : Int → Int × Int) (k : Nat) (p : Int × Int) : (endIter F k p).1 = itI (fun i => (F i).1) k p.1 := by
  induction k with
  | zero => rfl
  | succ k ih => simp only [endIter, itI, ih]

def nx (s : Sg) (t : List Int) (f : Nat) (i : Int) : Int := (endR s t f i).1
theorem nx_out {s : Sg} {t : List Int} {f : Nat} {i : Int} (h : i < 0 ∨ (t.length : Int) ≤ i) : nx s t f i = -1 := by unfold nx; rw [endR_out h]
theorem nx_in {s : Sg} {t : List Int} {f k : Nat} (h : k < t.length) : nx s t (f + 1) k = if arP s t[k] < 0 then -1 else itI (nx s t f) (arP s t[k]).toNat (k + 1) := by
  unfold nx
  conv => lhs; unfold endR
  rw [if_neg (by omega)]
  simp only [Int.toNat_natCast, List.getElem?_eq_getElem h]
  split
  · rfl
  · rw [endIter_fst]
theorem itI_path {s : Sg} {t : List Int} {f : Nat} {i : Int} (h0 : 0 ≤ i) (h1 : i < t.length) (k : Nat) : itI (nx s t f) k (i + 1) = -1 ∨ (i < itI (nx s t f) k (i + 1) ∧ itI (nx s t f) k (i + 1) ≤ t.length) := by
  have := (endIter_bounds (endR_bounds s t f) h0 h1 k).1
  rw [endIter_fst] at this
  exact this

theorem nx_fuel (s : Sg) (t : List Int) : ∀ (f f' : Nat) (i : Int), 1 ≤ f → 1 ≤ f' → (i < 0 ∨ (t.length : Int) - i < f) → (i < 0 ∨ (t.length : Int) - i < f') → nx s t f i = nx s t f' i := by
  intro f
  induction f with
  | zero => intro f' i h; omega
  | succ f ih =>
    intro f' i _ h2 h3 h4
    by_cases hout : i < 0 ∨ (t.length : Int) ≤ i
    · rw [nx_out hout, nx_out hout]
    · obtain ⟨k, rfl⟩ := Int.eq_ofNat_of_zero_le (show 0 ≤ i by omega)
      have hk : k < t.length := by omega
      obtain ⟨f'', rfl⟩ : ∃ f'', f' = f'' + 1 := ⟨f' - 1, by omega⟩
      rw [nx_in hk, nx_in hk]
      split
      · rfl
      · have key : ∀ j, itI (nx s t f) j (k + 1) = itI (nx s t f'') j (k + 1) := by
          intro j
          induction j with
          | zero => rfl
          | succ j ihj =>
            simp only [itI]
            rw [← ihj]
            rcases itI_path (s := s) (t := t) (f := f) (i := k) (by omega) (by omega) j with h | h
            · rw [h, nx_out (Or.inl (by omega)), nx_out (Or.inl (by omega))]
            · exact ih f'' _ (by omega) (by omega) (by omega) (by omega)
        exact key _

theorem itI_m1 (s : Sg) (t : List Int) (f k : Nat) : itI (nx s t f) k (-1) = -1 := by
  induction k with
  | zero => rfl
  | succ k ih => simp only [itI, ih]; exact nx_out (Or.inl (by omega))

theorem nx_100 (s : Sg) (t : List Int) (i : Nat) (hlt : i < t.length) (hl : t.length ≤ 60) (j : Nat) : nx s t 100 (itI (nx s t 100) j (i + 1)) = nx s t 101 (itI (nx s t 100) j (i + 1)) := by
  rcases itI_path (s := s) (t := t) (f := 100) (i := i) (by omega) (by omega) j with h | h
  · rw [h, nx_out (Or.inl (by omega)), nx_out (Or.inl (by omega))]
  · generalize itI (nx s t 100) j (i + 1) = q at *
    refine nx_fuel s t 100 101 q (by omega) (by omega) (Or.inr ?_) (Or.inr ?_) <;> omega

theorem need_end {s : Sg} (hs : signB s = true) (t : List Int) (hl : t.length ≤ 60) : ∀ (m i k : Nat), i ≤ t.length → m = t.length - i → needB s (t.drop i) k = (itI (nx s t 101) k i == (t.length : Int)) := by
  intro m
  induction m with
  | zero =>
    intro i k hi hm
    rw [List.drop_of_length_le (by omega)]
    have : i = t.length := by omega
    subst this
    cases k with
    | zero => simp [needB, itI]
    | succ k =>
      rw [itI_front, nx_out (Or.inr (by omega)), itI_m1]
      simp [needB]
      rw [Bool.eq_iff_iff]; simp; omega
  | succ m ih =>
    intro i k hi hm
    have hlt : i < t.length := by omega
    rw [List.drop_eq_getElem_cons hlt]
    cases k with
    | zero =>
      simp only [needB, itI]
      rw [Bool.eq_iff_iff]; simp; omega
    | succ k =>
      have h0 : ((↑(k + 1) : Int) == 0) = false := by simp; omega
      simp only [needB, h0, Bool.not_false, Bool.true_and]
      rw [itI_front]
      have hnx := nx_in (s := s) (f := 100) hlt
      cases hx : inB t[i] (-12) (s.length - 1)
      · have har : arP s t[i] = -1 := by
          have := inB_false.1 hx
          unfold arP
          rw [inB_false.2 (by omega)]
          have h2 : inB t[i] 0 (s.length - 1) = false ∨ s.length = 0 := by
            by_cases hs0 : s.length = 0
            · right; exact hs0
            · left; exact inB_false.2 (by omega)
          rcases h2 with h2 | h2
          · rw [h2]; simp
          · rw [inB_false.2 (by omega)]; simp
        rw [hnx, har]
        simp only [show (-1 : Int) < 0 by omega, if_true]
        rw [itI_m1, Bool.false_and]
        symm; rw [beq_eq_false_iff_ne]; omega
      · have hb := inB_true.1 hx
        have har : arP s t[i] = arOf s t[i] := by
          unfold arP
          by_cases hneg : t[i] < 0
          · rw [inB_true.2 (by omega)]
            simp [arOf, hneg]
          · rw [inB_false.2 (by omega), inB_true.2 (by omega)]; simp
        have hb2 := signB_ar' hs t[i]
        rw [hnx, har, if_neg (by omega)]
        obtain ⟨n, hn⟩ := Int.eq_ofNat_of_zero_le hb2.1
        have hfu : ∀ j, itI (nx s t 100) j (i + 1) = itI (nx s t 101) j (i + 1) := by
          intro j
          induction j with
          | zero => simp only [itI]
          | succ j ihj =>
            simp only [itI]
            rw [← ihj]
            exact nx_100 s t i hlt (by omega) j
        rw [hn, Int.toNat_natCast, hfu, ← itI_add]
        rw [show ((↑(k + 1) : Int) - 1 + ↑n) = ((n + k : Nat) : Int) by omega]
        have := ih (i + 1) (n + k) (by omega) (by omega)
        rw [this]
        simp

theorem end_need (s : Sg) (t : List Int) (h1 : signB s = true) (h2 : inB t.length 1 60 = true) : ((endR s t 101 0).1 == (t.length : Int)) = needB s t 1 := by
  have hb := inB_true.1 h2
  have := need_end h1 t (by omega) t.length 0 1 (by omega) (by omega)
  rw [List.drop_zero] at this
  simp only [itI, nx] at this
  exact this.symm

end Go.Proofs.Ytiacbdipagbblaa
