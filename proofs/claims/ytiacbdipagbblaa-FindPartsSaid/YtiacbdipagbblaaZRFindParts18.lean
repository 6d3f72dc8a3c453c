/-
  WHAT IT HOLDS: the paths to all parts of a term by where these begin, and how those of arguments come from those of their parts. No program. No condition.
-/
import Derived.Test.YtiacbdipagbblaaZRFindParts17
import Derived.Test.YtiacbdipagbblaaZRFindParts7
namespace Go.Proofs.Ytiacbdipagbblaa
open Go
def wayL (s : Sg) (t : List Int) : List (List Int) := (prs s [[]] t).map Prod.fst
theorem flat_at : ∀ (zs : List (List Int)) (j : Nat), j < zs.flatten.length → ∃ (k o : Nat) (hk : k < zs.length), j = (zs.take k).flatten.length + o ∧ o < zs[k].length
  | [], j, h => by simp at h
  | z :: zs, j, h => by
    by_cases hj : j < z.length
    · exact ⟨0, j, by simp, by simp, by simpa using hj⟩
    · rw [List.flatten_cons, List.length_append] at h
      obtain ⟨k, o, hk, h1, h2⟩ := flat_at zs (j - z.length) (by omega)
      refine ⟨k + 1, o, by simpa using hk, ?_, by simpa using h2⟩
      rw [List.take_succ_cons, List.flatten_cons, List.length_append]
      omega
theorem flat_cut {zs : List (List Int)} {k : Nat} (hk : k < zs.length) : zs.flatten = (zs.take k).flatten ++ (zs[k] ++ (zs.drop (k + 1)).flatten) := by
  conv => lhs; rw [← List.take_append_drop k zs, List.flatten_append, List.drop_eq_getElem_cons hk, List.flatten_cons]
theorem flat_drop {zs : List (List Int)} {k o : Nat} (hk : k < zs.length) (ho : o ≤ zs[k].length) (r : List Int) : (zs.flatten ++ r).drop ((zs.take k).flatten.length + o) = zs[k].drop o ++ ((zs.drop (k + 1)).flatten ++ r) := by
  rw [flat_cut hk, List.append_assoc, List.append_assoc, ← List.drop_drop, List.drop_left, List.drop_append_of_le_length ho]
theorem part_at {s : Sg} {m : Int} {t : List Int} (h : IsT s m t) : ∀ i, i < t.length → ∃ v r, IsT s m v ∧ t.drop i = v ++ r := by
  induction h with
  | var x h1 h2 =>
    intro i hi
    obtain rfl : i = 0 := by simp at hi; omega
    exact ⟨[x], [], IsT.var x h1 h2, by simp⟩
  | app c zs h1 h2 h3 ih =>
    intro i hi
    cases i with
    | zero => exact ⟨_, [], IsT.app c zs h1 h2 h3, by simp⟩
    | succ j =>
      simp only [List.length_cons, Nat.add_lt_add_iff_right] at hi
      obtain ⟨k, o, hk, rfl, ho⟩ := flat_at zs j hi
      obtain ⟨v, r, hv, hd⟩ := ih _ (List.getElem_mem hk) o ho
      have := flat_drop hk (Nat.le_of_lt ho) []
      rw [List.append_nil] at this
      exact ⟨v, r ++ ((zs.drop (k + 1)).flatten ++ []), hv, by rw [List.drop_succ_cons, this, hd, List.append_assoc]⟩
/-- the part at a is a symbol with arguments zs. -/
def AppAt (s : Sg) (m : Int) (t : List Int) (a c : Nat) (zs : List (List Int)) (r : List Int) : Prop := t.drop a = (c : Int) :: zs.flatten ++ r ∧ c < s.length ∧ (zs.length : Int) = arOf s c ∧ ∀ z ∈ zs, IsT s m z
theorem parent {s : Sg} {m : Int} {t : List Int} (h : IsT s m t) : ∀ i, 0 < i → i < t.length → ∃ a k c zs r, a < i ∧ AppAt s m t a c zs r ∧ k < zs.length ∧ i = a + 1 + (zs.take k).flatten.length := by
  induction h with
  | var x h1 h2 =>
    intro i h0 hi
    simp at hi; omega
  | app c zs h1 h2 h3 ih =>
    intro i h0 hi
    obtain ⟨j, rfl⟩ : ∃ j, i = j + 1 := ⟨i - 1, by omega⟩
    simp only [List.length_cons, Nat.add_lt_add_iff_right] at hi
    obtain ⟨k, o, hk, rfl, ho⟩ := flat_at zs j hi
    cases o with
    | zero => exact ⟨0, k, c, zs, [], by omega, ⟨by simp, h1, h2, h3⟩, hk, by omega⟩
    | succ o =>
      obtain ⟨a, k', c', zs', r, ha, ⟨hd, b1, b2, b3⟩, hk', he⟩ := ih _ (List.getElem_mem hk) (o + 1) (by omega) ho
      have hal : a ≤ zs[k].length := by omega
      have := flat_drop hk hal []
      rw [List.append_nil] at this
      refine ⟨(zs.take k).flatten.length + a + 1, k', c', zs', r ++ ((zs.drop (k + 1)).flatten ++ []), by omega, ⟨?_, b1, b2, b3⟩, hk', by omega⟩
      rw [List.drop_succ_cons, this, hd, List.append_assoc]
theorem AppAt.uniq {s : Sg} {m : Int} {t : List Int} {a c c' : Nat} {zs zs' : List (List Int)} {r r' : List Int} (h : AppAt s m t a c zs r) (h' : AppAt s m t a c' zs' r') : c = c' ∧ zs = zs' := by
  obtain ⟨h1, h2, h3, h4⟩ := h
  obtain ⟨k1, k2, k3, k4⟩ := h'
  rw [h1] at k1
  obtain ⟨e1, e2⟩ := List.cons.inj k1
  have e1 : c = c' := by omega
  subst e1
  refine ⟨rfl, ?_⟩
  have key : ∀ (zs zs' : List (List Int)), zs.length = zs'.length → (∀ z ∈ zs, IsT s m z) → (∀ z ∈ zs', IsT s m z) → ∀ r r', zs.flatten ++ r = zs'.flatten ++ r' → zs = zs' := by
    intro zs
    induction zs with
    | nil => intro zs' hl _ _ _ _ _; simpa using hl.symm
    | cons z zs ih =>
      intro zs' hl hz hz' r r' he
      cases zs' with
      | nil => simp at hl
      | cons z' zs' =>
        rw [List.flatten_cons, List.flatten_cons, List.append_assoc, List.append_assoc] at he
        have e3 : z = z' := by
          have := congrArg (tk s 1) he
          rwa [tk_one (hz z (by simp)), tk_one (hz' z' (by simp))] at this
        subst e3
        rw [ih zs' (by simpa using hl) (fun y hy => hz y (by simp [hy])) (fun y hy => hz' y (by simp [hy])) r r' (List.append_cancel_left he)]
  exact key zs zs' (by omega) h4 k4 r r' e2
theorem prs_drop {s : Sg} : ∀ (t : List Int) (σ : List (List Int)) (a : Nat), ∃ σ', (prs s σ t).drop a = prs s σ' (t.drop a)
  | t, σ, 0 => ⟨σ, rfl⟩
  | [], σ, a + 1 => ⟨[], by cases σ <;> simp [prs]⟩
  | x :: t, [], a + 1 => ⟨[], by simp [prs, prs_nil]⟩
  | x :: t, p :: σ, a + 1 => by
    obtain ⟨σ', h⟩ := prs_drop t (pushW p (arN s x) ++ σ) a
    exact ⟨σ', by simpa [prs] using h⟩
theorem way_len {s : Sg} {m : Int} {t : List Int} (h : IsT s m t) : (wayL s t).length = t.length := by unfold wayL; rw [List.length_map, prs_len h]
theorem way_arg {s : Sg} {m : Int} {t : List Int} (h : IsT s m t) {a c : Nat} {zs : List (List Int)} {r : List Int} (hA : AppAt s m t a c zs r) : ∃ p, (wayL s t)[a]? = some p ∧ ∀ k, k < zs.length → (wayL s t)[a + 1 + (zs.take k).flatten.length]? = some (p ++ [(k : Int)]) := by
  obtain ⟨h1, h2, h3, h4⟩ := hA
  obtain ⟨σ, hσ⟩ := prs_drop (s := s) t [[]] a
  have hal : a < t.length := by
    have := congrArg List.length h1
    rw [List.length_drop, List.length_append, List.length_cons] at this; omega
  have hl := congrArg List.length hσ
  rw [List.length_drop, prs_len h, h1] at hl
  cases σ with
  | nil => rw [prs_nil] at hl; simp at hl; omega
  | cons p σ =>
    have hT : IsT s m ((c : Int) :: zs.flatten) := IsT.app c zs h2 h3 h4
    rw [h1, prs_T hT, prs_app h2 h3 h4] at hσ
    have get : ∀ i, (wayL s t)[a + i]? = ((prs s [[]] t).drop a)[i]?.map Prod.fst := fun i => by
      unfold wayL
      rw [List.getElem?_map, List.getElem?_drop]
    refine ⟨p, by have := get 0; rw [hσ] at this; simpa using this, fun k hk => ?_⟩
    have := get (1 + (zs.take k).flatten.length)
    rw [← Nat.add_assoc, hσ] at this
    rw [this]
    obtain ⟨r', hr'⟩ := prs_mid h4 p hk
    have hpl : (prs s (pushW p k) (zs.take k).flatten).length = (zs.take k).flatten.length := by
      refine prs_len_F _ _ (by simp [pushW]; omega) (fun z hz => ⟨m, h4 z (List.mem_of_mem_take hz)⟩) (fun z hz q => prs_len (h4 z (List.mem_of_mem_take hz)) q)
    rw [List.cons_append, Nat.add_comm 1, List.getElem?_cons_succ, hr', List.append_assoc, List.append_assoc, List.getElem?_append_right (by omega), hpl, Nat.sub_self]
    have hz := h4 _ (List.getElem_mem hk)
    cases hzk : zs[k] with
    | nil => have := hz.ne; rw [hzk] at this; simp at this
    | cons x z' => simp [prs]
theorem way_small {s : Sg} : ∀ (t : List Int) (σ : List (List Int)) (n : Nat), (∀ p ∈ σ, p.length ≤ n) → ∀ x ∈ prs s σ t, x.1.length ≤ n + t.length
  | [], σ, n, _, x, hx => by cases σ <;> simp [prs] at hx
  | y :: t, [], n, _, x, hx => by simp [prs] at hx
  | y :: t, p :: σ, n, h, x, hx => by
    simp only [prs, List.mem_cons] at hx
    rcases hx with rfl | hx
    · have := h p (by simp); simp; omega
    · have := way_small t (pushW p (arN s y) ++ σ) (n + 1) (fun q hq => by
        rcases List.mem_append.1 hq with hq | hq
        · obtain ⟨k, _, rfl⟩ := List.mem_map.1 hq
          have := h p (by simp)
          simp; omega
        · have := h q (by simp [hq]); omega) x hx
      simp; omega
theorem way_short {s : Sg} {t p : List Int} {i : Nat} (h : (wayL s t)[i]? = some p) : p.length ≤ t.length := by
  have := List.mem_of_getElem? h
  unfold wayL at this
  obtain ⟨x, hx, rfl⟩ := List.mem_map.1 this
  have := way_small t [[]] 0 (by simp) x hx
  omega
theorem way_zero {s : Sg} {m : Int} {t : List Int} (h : IsT s m t) : (wayL s t)[0]? = some [] := by
  cases t with
  | nil => cases h
  | cons x t => simp [wayL, prs]
/-- the paths that Ways has laid before the part at n, with the first k arguments of that. -/
def setAt (s : Sg) (t : List Int) (n i : Nat) : Prop := i = 0 ∨ ∃ a k c zs r, a < n ∧ AppAt s 12 t a c zs r ∧ k < zs.length ∧ i = a + 1 + (zs.take k).flatten.length
theorem set_self {s : Sg} {t : List Int} (h : IsT s 12 t) {i n : Nat} (hi : i < t.length) (hn : i ≤ n) : setAt s t n i := by
  by_cases h0 : i = 0
  · exact Or.inl h0
  · obtain ⟨a, k, c, zs, r, h1, h2, h3, h4⟩ := parent h i (by omega) hi
    exact Or.inr ⟨a, k, c, zs, r, by omega, h2, h3, h4⟩
theorem set_app {s : Sg} {t : List Int} {n c : Nat} {zs : List (List Int)} {r : List Int} (hA : AppAt s 12 t n c zs r) {i : Nat} (h : setAt s t (n + 1) i) : setAt s t n i ∨ ∃ k, k < zs.length ∧ i = n + 1 + (zs.take k).flatten.length := by
  rcases h with h | ⟨a, k, c', zs', r', h1, h2, h3, h4⟩
  · exact Or.inl (Or.inl h)
  · by_cases ha : a = n
    · subst ha
      obtain ⟨rfl, rfl⟩ := hA.uniq h2
      exact Or.inr ⟨k, h3, h4⟩
    · exact Or.inl (Or.inr ⟨a, k, c', zs', r', by omega, h2, h3, h4⟩)
theorem set_var {s : Sg} {t : List Int} {n : Nat} (hn : n < t.length) (hx : t[n] < 0) {i : Nat} (h : setAt s t (n + 1) i) : setAt s t n i := by
  rcases h with h | ⟨a, k, c', zs', r', h1, h2, h3, h4⟩
  · exact Or.inl h
  · by_cases ha : a = n
    · subst ha
      have := h2.1
      rw [List.drop_eq_getElem_cons hn] at this
      have := (List.cons.inj this).1
      omega
    · exact Or.inr ⟨a, k, c', zs', r', by omega, h2, h3, h4⟩
end Go.Proofs.Ytiacbdipagbblaa
