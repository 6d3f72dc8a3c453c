/-
  WHAT IT HOLDS: terms in order: comparing by length and then by numbers is a strict order; a strictly ordered list is fixed by its members; putting in and taking doubles out. No program. No condition.
-/
import Derived.Test.YtiacbdipagbblaaZRFindGroups0
namespace Go.Proofs.Ytiacbdipagbblaa
def lexL : List Int → List Int → Int
  | [], [] => 0
  | [], _ :: _ => -1
  | _ :: _, [] => 1
  | a :: x, b :: y => if a < b then -1 else if b < a then 1 else lexL x y
def cmpL (a b : List Int) : Int := if a.length < b.length then -1 else if b.length < a.length then 1 else lexL a b
theorem lexL_three : ∀ a b : List Int, lexL a b = -1 ∨ lexL a b = 0 ∨ lexL a b = 1
  | [], [] => Or.inr (Or.inl rfl)
  | [], _ :: _ => Or.inl rfl
  | _ :: _, [] => Or.inr (Or.inr rfl)
  | a :: x, b :: y => by
    rw [lexL]
    split
    · exact Or.inl rfl
    · split
      · exact Or.inr (Or.inr rfl)
      · exact lexL_three x y
theorem lexL_zero : ∀ a b : List Int, lexL a b = 0 ↔ a = b
  | [], [] => by simp [lexL]
  | [], _ :: _ => by simp [lexL]
  | _ :: _, [] => by simp [lexL]
  | a :: x, b :: y => by
    rw [lexL]
    split
    · simp; intro h; omega
    · split
      · simp; intro h; omega
      · rw [lexL_zero x y, List.cons.injEq]
        constructor
        · intro h; exact ⟨by omega, h⟩
        · exact fun h => h.2
theorem lexL_swap : ∀ a b : List Int, lexL b a = - lexL a b
  | [], [] => rfl
  | [], _ :: _ => rfl
  | _ :: _, [] => rfl
  | a :: x, b :: y => by
    rw [lexL, lexL]
    by_cases h1 : a < b
    · rw [if_neg (by omega), if_pos h1, if_pos h1]; rfl
    · by_cases h2 : b < a
      · rw [if_pos h2, if_neg h1, if_pos h2]
      · rw [if_neg h2, if_neg h1, if_neg h1, if_neg h2, lexL_swap x y]
theorem lexL_trans : ∀ a b c : List Int, lexL a b = -1 → lexL b c = -1 → lexL a c = -1
  | [], _, [], h1, h2 => by
    rename_i b
    cases b <;> simp [lexL] at h1 h2
  | [], _, _ :: _, _, _ => rfl
  | _ :: _, [], _, h1, _ => by simp [lexL] at h1
  | _ :: _, _ :: _, [], _, h2 => by simp [lexL] at h2
  | a :: x, b :: y, c :: z, h1, h2 => by
    rw [lexL] at h1 h2 ⊢
    by_cases e1 : a < b
    · by_cases e2 : b < c
      · rw [if_pos (by omega)]
      · rw [if_neg e2] at h2
        by_cases e3 : c < b
        · rw [if_pos e3] at h2; simp at h2
        · rw [if_pos (by omega)]
    · rw [if_neg e1] at h1
      by_cases e3 : b < a
      · rw [if_pos e3] at h1; simp at h1
      · rw [if_neg e3] at h1
        by_cases e2 : b < c
        · rw [if_pos (by omega)]
        · rw [if_neg e2] at h2
          by_cases e4 : c < b
          · rw [if_pos e4] at h2; simp at h2
          · rw [if_neg e4] at h2
            rw [if_neg (by omega), if_neg (by omega)]
            exact lexL_trans x y z h1 h2
theorem cmpL_three (a b : List Int) : cmpL a b = -1 ∨ cmpL a b = 0 ∨ cmpL a b = 1 := by
  unfold cmpL
  split
  · exact Or.inl rfl
  · split
    · exact Or.inr (Or.inr rfl)
    · exact lexL_three a b
theorem cmpL_zero {a b : List Int} : cmpL a b = 0 ↔ a = b := by
  unfold cmpL
  split
  · simp; intro h; subst h; omega
  · split
    · simp; intro h; subst h; omega
    · exact lexL_zero a b
theorem cmpL_self (a : List Int) : cmpL a a = 0 := cmpL_zero.2 rfl
theorem cmpL_swap (a b : List Int) : cmpL b a = - cmpL a b := by
  unfold cmpL
  by_cases h1 : a.length < b.length
  · rw [if_neg (by omega), if_pos h1, if_pos h1]; rfl
  · by_cases h2 : b.length < a.length
    · rw [if_pos h2, if_neg h1, if_pos h2]
    · rw [if_neg h2, if_neg h1, if_neg h1, if_neg h2, lexL_swap]
theorem cmpL_trans {a b c : List Int} (h1 : cmpL a b < 0) (h2 : cmpL b c < 0) : cmpL a c < 0 := by
  have k1 := cmpL_three a b
  have k2 := cmpL_three b c
  have h1 : cmpL a b = -1 := by omega
  have h2 : cmpL b c = -1 := by omega
  unfold cmpL at h1 h2 ⊢
  by_cases e1 : a.length < b.length
  · by_cases e2 : b.length < c.length
    · rw [if_pos (by omega)]; omega
    · rw [if_neg e2] at h2
      by_cases e3 : c.length < b.length
      · rw [if_pos e3] at h2; simp at h2
      · rw [if_pos (by omega)]; omega
  · rw [if_neg e1] at h1
    by_cases e3 : b.length < a.length
    · rw [if_pos e3] at h1; simp at h1
    · rw [if_neg e3] at h1
      by_cases e2 : b.length < c.length
      · rw [if_pos (by omega)]; omega
      · rw [if_neg e2] at h2
        by_cases e4 : c.length < b.length
        · rw [if_pos e4] at h2; simp at h2
        · rw [if_neg e4] at h2
          rw [if_neg (by omega), if_neg (by omega), lexL_trans a b c h1 h2]; omega
theorem cmpL_total {a b : List Int} (h1 : ¬ cmpL a b < 0) (h2 : a ≠ b) : cmpL b a < 0 := by
  have k1 := cmpL_three a b
  have k2 := cmpL_swap a b
  have k3 : cmpL a b ≠ 0 := fun h => h2 (cmpL_zero.1 h)
  omega
theorem cmpL_irr (a : List Int) : ¬ cmpL a a < 0 := by rw [cmpL_self]; omega
/-- strictly ordered. -/
def SS (l : List (List Int)) : Prop := l.Pairwise fun a b => cmpL a b < 0
theorem SS_uniq : ∀ {a b : List (List Int)}, SS a → SS b → (∀ x, x ∈ a ↔ x ∈ b) → a = b
  | [], [], _, _, _ => rfl
  | [], y :: b, _, _, h => by have := (h y).2 (by simp); simp at this
  | x :: a, [], _, _, h => by have := (h x).1 (by simp); simp at this
  | x :: a, y :: b, ha, hb, h => by
    obtain ⟨a1, a2⟩ := List.pairwise_cons.1 ha
    obtain ⟨b1, b2⟩ := List.pairwise_cons.1 hb
    have hxy : x = y := by
      by_cases e : x = y
      · exact e
      · have h1 := (h x).1 (by simp)
        have h2 := (h y).2 (by simp)
        have k1 := b1 x ((List.mem_cons.1 h1).resolve_left e)
        have k2 := a1 y ((List.mem_cons.1 h2).resolve_left (fun h => e h.symm))
        exact absurd (cmpL_trans k1 k2) (cmpL_irr y)
    subst hxy
    rw [SS_uniq a2 b2 fun z => by
      constructor
      · intro hz
        have h1 := (h z).1 (by simp [hz])
        refine (List.mem_cons.1 h1).resolve_left fun e => ?_
        subst e
        exact cmpL_irr z (a1 z hz)
      · intro hz
        have h1 := (h z).2 (by simp [hz])
        refine (List.mem_cons.1 h1).resolve_left fun e => ?_
        subst e
        exact cmpL_irr z (b1 z hz)]
/-- the list with one more in its place. -/
def withL : List (List Int) → List Int → List (List Int)
  | [], t => [t]
  | x :: l, t => if cmpL t x < 0 then t :: x :: l else if cmpL t x = 0 then x :: l else x :: withL l t
theorem withL_mem : ∀ (l : List (List Int)) (t y : List Int), y ∈ withL l t ↔ y ∈ l ∨ y = t
  | [], t, y => by simp [withL]
  | x :: l, t, y => by
    rw [withL]
    split
    · simp only [List.mem_cons]
      constructor
      · rintro (h | h | h) <;> simp [h]
      · rintro ((h | h) | h) <;> simp [h]
    · split
      · rename_i h0
        have := cmpL_zero.1 h0
        subst this
        simp only [List.mem_cons]
        constructor
        · rintro (h | h) <;> simp [h]
        · rintro ((h | h) | h) <;> simp [h]
      · rw [List.mem_cons, withL_mem l t y, List.mem_cons, or_assoc]
theorem withL_ss : ∀ {l : List (List Int)} (t : List Int), SS l → SS (withL l t)
  | [], t, _ => List.pairwise_singleton _ _
  | x :: l, t, h => by
    obtain ⟨h1, h2⟩ := List.pairwise_cons.1 h
    rw [withL]
    split
    · rename_i h0
      refine List.pairwise_cons.2 ⟨fun y hy => ?_, h⟩
      rcases List.mem_cons.1 hy with rfl | hy
      · exact h0
      · exact cmpL_trans h0 (h1 y hy)
    · split
      · exact h
      · rename_i h0 h3
        refine List.pairwise_cons.2 ⟨fun y hy => ?_, withL_ss t h2⟩
        rcases (withL_mem l t y).1 hy with hy | rfl
        · exact h1 y hy
        · have := cmpL_swap y x
          omega
def sortedL (l : List (List Int)) : List (List Int) := l.foldl withL []
theorem foldl_with : ∀ (l acc : List (List Int)), SS acc → SS (l.foldl withL acc) ∧ ∀ y, y ∈ l.foldl withL acc ↔ y ∈ acc ∨ y ∈ l
  | [], acc, h => ⟨h, by simp⟩
  | t :: l, acc, h => by
    obtain ⟨h1, h2⟩ := foldl_with l (withL acc t) (withL_ss t h)
    refine ⟨h1, fun y => ?_⟩
    rw [List.foldl_cons, h2, withL_mem, List.mem_cons, or_assoc]
theorem sortedL_ss (l : List (List Int)) : SS (sortedL l) := (foldl_with l [] List.Pairwise.nil).1
theorem sortedL_mem (l : List (List Int)) (y : List Int) : y ∈ sortedL l ↔ y ∈ l := by
  rw [sortedL, (foldl_with l [] List.Pairwise.nil).2]; simp
/-- doubles that stand next to each other are taken out. -/
def compL : List (List Int) → List (List Int)
  | [] => []
  | [x] => [x]
  | x :: y :: l => if x = y then compL (y :: l) else x :: compL (y :: l)
theorem compL_mem : ∀ (l : List (List Int)) (y : List Int), y ∈ compL l ↔ y ∈ l
  | [], y => by simp [compL]
  | [x], y => by simp [compL]
  | x :: z :: l, y => by
    rw [compL]
    split
    · rename_i h
      subst h
      rw [compL_mem (x :: l) y]; simp
    · rw [List.mem_cons, compL_mem (z :: l) y, List.mem_cons (b := x)]
/-- ascending. -/
def AS (l : List (List Int)) : Prop := l.Pairwise fun a b => ¬ cmpL b a < 0
theorem compL_ss : ∀ {l : List (List Int)}, AS l → SS (compL l)
  | [], _ => List.Pairwise.nil
  | [x], _ => List.pairwise_singleton _ _
  | x :: z :: l, h => by
    obtain ⟨h1, h2⟩ := List.pairwise_cons.1 h
    rw [compL]
    split
    · exact compL_ss h2
    · rename_i hne
      refine List.pairwise_cons.2 ⟨fun y hy => ?_, compL_ss h2⟩
      have hy := (compL_mem (z :: l) y).1 hy
      have hxz : cmpL x z < 0 := cmpL_total (h1 z (by simp)) (fun h => hne h.symm)
      rcases List.mem_cons.1 hy with rfl | hy
      · exact hxz
      · have hzy := (List.pairwise_cons.1 h2).1 y hy
        by_cases e : z = y
        · subst e; exact hxz
        · exact cmpL_trans hxz (cmpL_total hzy (fun h => e h.symm))
/-- sorted, and doubles taken out: what putting in one by one gives. -/
theorem comp_sorted {l m : List (List Int)} (hp : ∀ y, y ∈ m ↔ y ∈ l) (hs : AS m) : compL m = sortedL l :=
  SS_uniq (compL_ss hs) (sortedL_ss l) fun y => by rw [compL_mem, sortedL_mem, hp]
end Go.Proofs.Ytiacbdipagbblaa
