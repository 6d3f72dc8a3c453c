/-
  WHAT IT HOLDS: plain facts on canonical forms: how variables are renamed, and that two terms have one canonical form exactly if each is an instance of the other one. No program in sight. Condition: the lists are terms where it is said.
  WHAT IT HOLDS: plain facts on grouping a list by equal elements. No program in sight. No condition.
-/
import Derived.Test.YtpflkjldapmgdaaGreatZRCarryChains1
namespace Go.Proofs.YtpflkjldapmgdaaGreat

/-- the variables that come, in the order in which they come, behind those met. -/
def varsF : List Int → List Int → List Int
  | vs, [] => vs
  | vs, n :: r => if n < 0 ∧ n ∉ vs then varsF (vs ++ [n]) r else varsF vs r
def numV (vs : List Int) (n : Int) : Int := if n < 0 then -(vs.idxOf n : Int) - 1 else n
def canonL (t : List Int) : List Int := t.map (numV (varsF [] t))
theorem varsF_append (vs a b : List Int) : varsF vs (a ++ b) = varsF (varsF vs a) b := by
  induction a generalizing vs with
  | nil => rfl
  | cons n a ih => simp only [List.cons_append, varsF]; split <;> exact ih _
theorem varsF_prefix : ∀ (a vs : List Int), ∃ r, varsF vs a = vs ++ r
  | [], vs => ⟨[], by simp [varsF]⟩
  | n :: a, vs => by
    unfold varsF
    split
    · obtain ⟨r, h⟩ := varsF_prefix a (vs ++ [n])
      exact ⟨n :: r, by rw [h]; simp⟩
    · exact varsF_prefix a vs
theorem varsF_mem : ∀ (a vs : List Int) (x : Int), x ∈ varsF vs a ↔ x ∈ vs ∨ (x ∈ a ∧ x < 0)
  | [], vs, x => by simp [varsF]
  | n :: a, vs, x => by
    unfold varsF
    split
    · rename_i h
      rw [varsF_mem a]
      simp only [List.mem_append, List.mem_cons, List.not_mem_nil, or_false]
      constructor
      · rintro ((h1 | rfl) | h1)
        · exact Or.inl h1
        · exact Or.inr ⟨Or.inl rfl, h.1⟩
        · exact Or.inr ⟨Or.inr h1.1, h1.2⟩
      · rintro (h1 | ⟨rfl | h1, h2⟩)
        · exact Or.inl (Or.inl h1)
        · exact Or.inl (Or.inr rfl)
        · exact Or.inr ⟨h1, h2⟩
    · rename_i h
      rw [varsF_mem a]
      simp only [List.mem_cons]
      constructor
      · rintro (h1 | h1)
        · exact Or.inl h1
        · exact Or.inr ⟨Or.inr h1.1, h1.2⟩
      · rintro (h1 | ⟨rfl | h1, h2⟩)
        · exact Or.inl h1
        · left
          by_cases hx : x ∈ vs
          · exact hx
          · exact absurd ⟨h2, hx⟩ h
        · exact Or.inr ⟨h1, h2⟩
theorem varsF_nodup : ∀ (a vs : List Int), vs.Nodup → (varsF vs a).Nodup
  | [], vs, h => h
  | n :: a, vs, h => by
    unfold varsF
    split
    · rename_i h1
      refine varsF_nodup a _ ?_
      rw [List.nodup_append]
      refine ⟨h, by simp, ?_⟩
      intro x hx y hy
      simp at hy
      subst hy
      intro e
      subst e
      exact h1.2 hx
    · exact varsF_nodup a vs h
theorem numV_stable {vs : List Int} {n : Int} (r : List Int) (h : n < 0 → n ∈ vs) : numV (vs ++ r) n = numV vs n := by
  unfold numV
  split
  · rename_i hn
    rw [List.idxOf_append, if_pos (h hn)]
  · rfl
/-- a number's name does not change while more comes. -/
theorem numV_stable' (vs a : List Int) {n : Int} (h : n < 0 → n ∈ vs) : numV (varsF vs a) n = numV vs n := by
  obtain ⟨r, hr⟩ := varsF_prefix a vs
  rw [hr, numV_stable r h]
theorem varsF_map {ρ : Int → Int} : ∀ (a vs : List Int), (∀ n ∈ a, n < 0 → ρ n < 0) → (∀ n ∈ a, 0 ≤ n → ρ n = n) → (∀ n ∈ vs ++ a, ∀ m ∈ vs ++ a, n < 0 → m < 0 → ρ n = ρ m → n = m) → (∀ n ∈ vs, n < 0) →
    varsF (vs.map ρ) (a.map ρ) = (varsF vs a).map ρ
  | [], vs, _, _, _, _ => rfl
  | n :: a, vs, h1, h2, h3, h4 => by
    simp only [List.map_cons, varsF]
    by_cases hn : n < 0
    · have hρ := h1 n (by simp) hn
      by_cases hv : n ∈ vs
      · have : ρ n ∈ vs.map ρ := List.mem_map.2 ⟨n, hv, rfl⟩
        rw [if_neg (by simp [this]), if_neg (by simp [hv])]
        exact varsF_map a vs (fun x hx => h1 x (by simp [hx])) (fun x hx => h2 x (by simp [hx])) (fun x hx y hy => h3 x (by simp at hx ⊢; rcases hx with h | h <;> simp [h]) y (by simp at hy ⊢; rcases hy with h | h <;> simp [h])) h4
      · have : ρ n ∉ vs.map ρ := by
          intro hm
          obtain ⟨m, hm1, hm2⟩ := List.mem_map.1 hm
          have := h3 m (by simp [hm1]) n (by simp) (h4 m hm1) hn hm2
          subst this
          exact hv hm1
        rw [if_pos ⟨hρ, this⟩, if_pos ⟨hn, hv⟩]
        have e : vs.map ρ ++ [ρ n] = (vs ++ [n]).map ρ := by simp
        rw [e]
        exact varsF_map a (vs ++ [n]) (fun x hx => h1 x (by simp [hx])) (fun x hx => h2 x (by simp [hx])) (fun x hx y hy => h3 x (by simpa using hx) y (by simpa using hy)) (fun x hx => by
          rcases List.mem_append.1 hx with hx | hx
          · exact h4 x hx
          · simp at hx; subst hx; exact hn)
    · have e := h2 n (by simp) (by omega)
      rw [if_neg (by simp [e]; omega), if_neg (by simp [hn])]
      exact varsF_map a vs (fun x hx => h1 x (by simp [hx])) (fun x hx => h2 x (by simp [hx])) (fun x hx y hy => h3 x (by simp at hx ⊢; rcases hx with h | h <;> simp [h]) y (by simp at hy ⊢; rcases hy with h | h <;> simp [h])) h4
theorem idxOf_map_inj {ρ : Int → Int} {n : Int} : ∀ (vs : List Int), (∀ m ∈ vs, ρ m = ρ n → m = n) → (vs.map ρ).idxOf (ρ n) = vs.idxOf n
  | [], _ => rfl
  | m :: vs, h => by
    simp only [List.map_cons, List.idxOf_cons]
    by_cases e : m = n
    · subst e; simp
    · have e' : ρ m ≠ ρ n := fun q => e (h m (by simp) q)
      rw [show (ρ m == ρ n) = false by simpa using e', show (m == n) = false by simpa using e]
      simp only [cond_false]
      rw [idxOf_map_inj vs fun x hx => h x (by simp [hx])]
/-- a term and what an injective renaming makes of it have one canonical form. -/
theorem canonL_map {ρ : Int → Int} {a : List Int} (h1 : ∀ n ∈ a, n < 0 → ρ n < 0) (h2 : ∀ n ∈ a, 0 ≤ n → ρ n = n) (h3 : ∀ n ∈ a, ∀ m ∈ a, n < 0 → m < 0 → ρ n = ρ m → n = m) : canonL (a.map ρ) = canonL a := by
  have hv := varsF_map (ρ := ρ) a [] h1 h2 (by simpa using h3) (by simp)
  rw [List.map_nil] at hv
  unfold canonL
  rw [hv, List.map_map]
  apply List.map_congr_left
  intro n hn
  unfold numV
  by_cases hn0 : n < 0
  · have hr := h1 n hn hn0
    simp only [Function.comp, if_pos hr, if_pos hn0]
    rw [idxOf_map_inj _ fun m hm e => ?_]
    have hm' := (varsF_mem a [] m).1 hm
    simp at hm'
    exact h3 m hm'.1 n hn hm'.2 hn0 e
  · have e := h2 n hn (by omega)
    simp [Function.comp, hn0, e]
theorem numV_neg {vs : List Int} {n : Int} : numV vs n < 0 ↔ n < 0 := by
  unfold numV
  split <;> omega
theorem numV_inj {vs : List Int} {n m : Int} (hn : n < 0) (hm : m < 0) (h1 : n ∈ vs) (h : numV vs n = numV vs m) : n = m := by
  unfold numV at h
  rw [if_pos hn, if_pos hm] at h
  have e : vs.idxOf n = vs.idxOf m := by omega
  have h2 := List.idxOf_lt_length_of_mem h1
  have h3 : vs.idxOf m < vs.length := by omega
  have e1 : vs[vs.idxOf n] = n := by simp
  have e2 : vs[vs.idxOf m] = m := by simp
  rw [← e1, ← e2]
  simp [e]
theorem canonL_len (t : List Int) : (canonL t).length = t.length := by simp [canonL]
theorem canonL_canon (a : List Int) : canonL (canonL a) = canonL a := by
  have : canonL a = a.map (numV (varsF [] a)) := rfl
  conv => lhs; rw [this]
  refine canonL_map (fun n _ h => numV_neg.2 h) (fun n _ h => by unfold numV; rw [if_neg (by omega)]) fun n hn m _ h1 h2 e => ?_
  exact numV_inj h1 h2 ((varsF_mem a [] n).2 (Or.inr ⟨hn, h1⟩)) e

/-- terms that are instances of each other are alike. -/
theorem subL_len {s : Sg} {q : Int} {σ : Int → List Int} : ∀ (a : List Int), (∀ n ∈ a, n < 0 → IsT s q (σ n)) → a.length ≤ (subL σ a).length ∧ ((subL σ a).length ≤ a.length → ∀ n ∈ a, n < 0 → (σ n).length = 1)
  | [], _ => by simp [subL]
  | n :: a, h => by
    have ⟨i1, i2⟩ := subL_len a fun x hx => h x (by simp [hx])
    by_cases hn : n < 0
    · have hp := (h n (by simp) hn).ne
      rw [subL_cons_var _ hn, List.length_append, List.length_cons]
      refine ⟨by omega, fun hle x hx hx0 => ?_⟩
      rcases List.mem_cons.1 hx with rfl | hx
      · omega
      · exact i2 (by omega) x hx hx0
    · rw [subL_cons_app _ (by omega), List.length_cons, List.length_cons]
      refine ⟨by omega, fun hle x hx hx0 => ?_⟩
      rcases List.mem_cons.1 hx with rfl | hx
      · omega
      · exact i2 (by omega) x hx hx0
theorem subL_fix {s : Sg} {q : Int} {σ : Int → List Int} : ∀ (a : List Int) , (∀ n ∈ a, n < 0 → (σ n).length = 1) → subL σ a = a → ∀ n ∈ a, n < 0 → σ n = [n]
  | [], _, _ => by simp
  | n :: a, h, e => by
    by_cases hn : n < 0
    · have h1 := h n (by simp) hn
      obtain ⟨x, hx⟩ := List.length_eq_one_iff.1 h1
      rw [subL_cons_var _ hn, hx] at e
      simp at e
      intro y hy hy0
      rcases List.mem_cons.1 hy with rfl | hy
      · rw [hx, e.1]
      · exact subL_fix (s := s) (q := q) a (fun x hx => h x (by simp [hx])) e.2 y hy hy0
    · rw [subL_cons_app _ (by omega)] at e
      simp at e
      intro y hy hy0
      rcases List.mem_cons.1 hy with rfl | hy
      · omega
      · exact subL_fix (s := s) (q := q) a (fun x hx => h x (by simp [hx])) e y hy hy0
theorem subL_one {σ : Int → List Int} (x : Int) : subL σ [x] = if x < 0 then σ x else [x] := by simp [subL]
theorem inst_alike {s : Sg} {q : Int} {a b : List Int} (h : Inst s q a b) (h' : Inst s q b a) : canonL a = canonL b := by
  obtain ⟨σ, h1, rfl⟩ := h
  obtain ⟨τ, h2, h3⟩ := h'
  have l1 := subL_len a h1
  have l2 := subL_len _ h2
  rw [h3] at l2
  have s1 := l1.2 l2.1
  have s2 := l2.2 l1.1
  have hc := subL_comp σ τ a
  rw [h3] at hc
  have ht : ∀ n ∈ a, n < 0 → (subL τ (σ n)).length = 1 := by
    intro n hn hn0
    obtain ⟨x, hx⟩ := List.length_eq_one_iff.1 (s1 n hn hn0)
    rw [hx, subL_one]
    split
    · rename_i hx0
      exact s2 x (mem_subL hn hn0 (by simp [hx])) hx0
    · rfl
  have hf := subL_fix (s := s) (q := q) a ht hc.symm
  -- the renaming
  let ρ : Int → Int := fun n => if n < 0 then (σ n).headD 0 else n
  have hρ : ∀ n ∈ a, n < 0 → σ n = [ρ n] := by
    intro n hn hn0
    obtain ⟨x, hx⟩ := List.length_eq_one_iff.1 (s1 n hn hn0)
    simp [ρ, hn0, hx]
  have hmap : subL σ a = a.map ρ := by
    have : ∀ (c : List Int), (∀ n ∈ c, n ∈ a) → subL σ c = c.map ρ := by
      intro c
      induction c with
      | nil => intro _; rfl
      | cons n c ih =>
        intro hc
        have ih' := ih fun x hx => hc x (by simp [hx])
        by_cases hn : n < 0
        · rw [subL_cons_var _ hn, ih', hρ n (hc n (by simp)) hn]; rfl
        · rw [subL_cons_app _ (by omega), ih', List.map_cons]
          have : ρ n = n := by simp [ρ, hn]
          rw [this]
    exact this a fun _ h => h
  rw [hmap]
  symm
  have hneg : ∀ n ∈ a, n < 0 → ρ n < 0 := by
    intro n hn hn0
    have e := hf n hn hn0
    rw [hρ n hn hn0, subL_one] at e
    split at e
    · assumption
    · simp at e; omega
  refine canonL_map hneg (fun n _ h => by simp [ρ]; omega) fun n hn m hm hn0 hm0 e => ?_
  have e1 := hf n hn hn0
  have e2 := hf m hm hm0
  rw [hρ n hn hn0] at e1
  rw [hρ m hm hm0, ← e, e1] at e2
  simpa using e2

/-- and back: terms of one canonical form are instances of each other. -/
theorem canon_inst {s : Sg} {q : Int} {a b : List Int} (hb : IsT s q b) (h : canonL a = canonL b) : Inst s q a b := by
  have hl : a.length = b.length := by have := congrArg List.length h; simpa [canonL_len] using this
  have hg : ∀ i (h1 : i < a.length) (h2 : i < b.length), numV (varsF [] a) a[i] = numV (varsF [] b) b[i] := by
    intro i h1 h2
    have e : (canonL a)[i]? = (canonL b)[i]? := by rw [h]
    simpa [canonL, h1, h2] using e
  refine ⟨fun n => [b.getD (a.idxOf n) 0], fun n hn hn0 => ?_, ?_⟩
  · have hi := List.idxOf_lt_length_of_mem hn
    have hib : a.idxOf n < b.length := by omega
    have e := hg _ hi hib
    have e1 : a[a.idxOf n] = n := by simp
    have hneg : b[a.idxOf n] < 0 := by
      rw [e1] at e
      exact numV_neg.1 (e ▸ numV_neg.2 hn0)
    have : b.getD (a.idxOf n) 0 = b[a.idxOf n] := by simp [List.getD, hib]
    show IsT s q [b.getD (a.idxOf n) 0]
    rw [this]
    exact .var _ (hb.vars _ (List.getElem_mem hib) hneg) hneg
  · have key : ∀ (k : Nat), k ≤ a.length → subL (fun n => [b.getD (a.idxOf n) 0]) (a.take k) = b.take k := by
      intro k
      induction k with
      | zero => intro _; simp [subL]
      | succ k ih =>
        intro hk
        have hka : k < a.length := by omega
        have hkb : k < b.length := by omega
        rw [List.take_succ_eq_append_getElem hka, List.take_succ_eq_append_getElem hkb, subL_append, ih (by omega), subL_one]
        congr 1
        have e := hg k hka hkb
        by_cases hn0 : a[k] < 0
        · rw [if_pos hn0]
          have hi := List.idxOf_lt_length_of_mem (List.getElem_mem hka)
          have hib : a.idxOf a[k] < b.length := by omega
          have e2 := hg _ hi hib
          rw [List.getElem_idxOf, e] at e2
          have hk0 : b[k] < 0 := numV_neg.1 (e ▸ numV_neg.2 hn0)
          have hj0 : b[a.idxOf a[k]] < 0 := numV_neg.1 (e2 ▸ numV_neg.2 hk0)
          have := numV_inj hk0 hj0 ((varsF_mem b [] _).2 (Or.inr ⟨List.getElem_mem hkb, hk0⟩)) e2
          simp [List.getD, hib, this]
        · rw [if_neg hn0]
          have : ¬ b[k] < 0 := fun hh => hn0 (numV_neg.1 (e.symm ▸ numV_neg.2 hh))
          unfold numV at e
          rw [if_neg hn0, if_neg this] at e
          rw [e]
    have := key a.length (Nat.le_refl _)
    rw [List.take_of_length_le (Nat.le_refl _), List.take_of_length_le (by omega)] at this
    exact this
theorem alike_iff {s : Sg} {q : Int} {a b : List Int} (ha : IsT s q a) (hb : IsT s q b) : canonL a = canonL b ↔ Inst s q a b ∧ Inst s q b a :=
  ⟨fun h => ⟨canon_inst hb h, canon_inst ha h.symm⟩, fun h => inst_alike h.1 h.2⟩
end Go.Proofs.YtpflkjldapmgdaaGreat
namespace Go.Proofs.YtpflkjldapmgdaaGreat

/-- the different elements, in the order in which they come, behind those met. -/
def dedF : List (List Int) → List (List Int) → List (List Int)
  | hs, [] => hs
  | hs, k :: r => if k ∈ hs then dedF hs r else dedF (hs ++ [k]) r
theorem dedF_append (hs a b : List (List Int)) : dedF hs (a ++ b) = dedF (dedF hs a) b := by
  induction a generalizing hs with
  | nil => rfl
  | cons n a ih => simp only [List.cons_append, dedF]; split <;> exact ih _
theorem dedF_mem : ∀ (a hs : List (List Int)) (x : List Int), x ∈ dedF hs a ↔ x ∈ hs ∨ x ∈ a
  | [], hs, x => by simp [dedF]
  | n :: a, hs, x => by
    unfold dedF
    split
    · rename_i h
      rw [dedF_mem a]
      simp only [List.mem_cons]
      constructor
      · rintro (h1 | h1)
        · exact Or.inl h1
        · exact Or.inr (Or.inr h1)
      · rintro (h1 | rfl | h1)
        · exact Or.inl h1
        · exact Or.inl h
        · exact Or.inr h1
    · rw [dedF_mem a]
      simp only [List.mem_append, List.mem_cons, List.not_mem_nil, or_false, or_assoc]
theorem dedF_nodup : ∀ (a hs : List (List Int)), hs.Nodup → (dedF hs a).Nodup
  | [], hs, h => h
  | n :: a, hs, h => by
    unfold dedF
    split
    · exact dedF_nodup a hs h
    · rename_i h1
      refine dedF_nodup a _ ?_
      rw [List.nodup_append]
      refine ⟨h, by simp, ?_⟩
      intro x hx y hy
      simp at hy
      subst hy
      intro e
      subst e
      exact h1 hx
def hdsL (ks : List (List Int)) (n : Nat) : List (List Int) := dedF [] (ks.take n)
/-- the places of an element. -/
def clsL (ks : List (List Int)) (n : Nat) (h : List Int) : List Int := ((List.range n).filter fun i => decide (ks[i]? = some h)).map fun (i : Nat) => (i : Int)
def grpL (ks : List (List Int)) (n : Nat) : List (List Int) := (hdsL ks n).map (clsL ks n)
theorem hdsL_succ {ks : List (List Int)} {n : Nat} (h : n < ks.length) : hdsL ks (n + 1) = if ks[n] ∈ hdsL ks n then hdsL ks n else hdsL ks n ++ [ks[n]] := by
  unfold hdsL
  rw [List.take_succ_eq_append_getElem h, dedF_append]
  simp only [dedF]
theorem clsL_succ {ks : List (List Int)} {n : Nat} (h : n < ks.length) (x : List Int) : clsL ks (n + 1) x = clsL ks n x ++ if ks[n] = x then [(n : Int)] else [] := by
  unfold clsL
  rw [List.range_succ, List.filter_append, List.map_append]
  congr 1
  by_cases e : ks[n] = x
  · rw [if_pos e]
    simp [h, e]
  · rw [if_neg e]
    simp [h, e]
theorem clsL_none {ks : List (List Int)} {n : Nat} {x : List Int} (h : x ∉ hdsL ks n) : clsL ks n x = [] := by
  unfold clsL
  rw [List.map_eq_nil_iff, List.filter_eq_nil_iff]
  intro i hi he
  have hi' := List.mem_range.1 hi
  have he' := of_decide_eq_true he
  apply h
  unfold hdsL
  rw [dedF_mem]
  right
  rw [List.mem_iff_getElem?]
  exact ⟨i, by rw [List.getElem?_take, if_pos hi']; exact he'⟩
theorem clsL_ne {ks : List (List Int)} {n : Nat} (hn : n ≤ ks.length) {x : List Int} (h : x ∈ hdsL ks n) : clsL ks n x ≠ [] := by
  unfold hdsL at h
  rw [dedF_mem] at h
  rcases h with h | h
  · simp at h
  · rw [List.mem_iff_getElem?] at h
    obtain ⟨i, hi⟩ := h
    rw [List.getElem?_take] at hi
    split at hi
    · rename_i hin
      intro e
      unfold clsL at e
      rw [List.map_eq_nil_iff, List.filter_eq_nil_iff] at e
      exact e i (List.mem_range.2 hin) (by simpa using hi)
    · cases hi
theorem clsL_mem {ks : List (List Int)} {n : Nat} {x : List Int} {i : Int} : i ∈ clsL ks n x ↔ ∃ k : Nat, i = k ∧ k < n ∧ ks[k]? = some x := by
  unfold clsL
  simp only [List.mem_map, List.mem_filter, List.mem_range, decide_eq_true_eq]
  constructor
  · rintro ⟨k, ⟨h1, h2⟩, rfl⟩; exact ⟨k, rfl, h1, h2⟩
  · rintro ⟨k, rfl, h1, h2⟩; exact ⟨k, ⟨h1, h2⟩, rfl⟩
theorem clsL_len (ks : List (List Int)) (n : Nat) (x : List Int) : (clsL ks n x).length ≤ n := by
  unfold clsL
  rw [List.length_map]
  exact Nat.le_trans (List.length_filter_le _ _) (by simp)
theorem grpL_len (ks : List (List Int)) (n : Nat) : (grpL ks n).length = (hdsL ks n).length := by simp [grpL]
theorem hdsL_len (ks : List (List Int)) (n : Nat) : (hdsL ks n).length ≤ n := by
  have key : ∀ (a hs : List (List Int)), (dedF hs a).length ≤ hs.length + a.length := by
    intro a
    induction a with
    | nil => intro hs; simp [dedF]
    | cons k a ih =>
      intro hs
      simp only [dedF]
      split
      · have := ih hs; simp; omega
      · have := ih (hs ++ [k]); simp at this ⊢; omega
  have := key (ks.take n) []
  simp at this
  unfold hdsL
  omega
theorem hdsL_nodup (ks : List (List Int)) (n : Nat) : (hdsL ks n).Nodup := dedF_nodup _ _ (by simp)
theorem grpL_new {ks : List (List Int)} {n : Nat} (h : n < ks.length) (hx : ks[n] ∉ hdsL ks n) : grpL ks (n + 1) = grpL ks n ++ [[(n : Int)]] := by
  unfold grpL
  rw [hdsL_succ h, if_neg hx, List.map_append]
  congr 1
  · apply List.map_congr_left
    intro y hy
    rw [clsL_succ h, if_neg (fun (e : ks[n] = y) => hx (by rw [e]; exact hy)), List.append_nil]
  · simp only [List.map_cons, List.map_nil]
    rw [clsL_succ h, if_pos rfl, clsL_none hx]
    rfl
theorem grpL_old {ks : List (List Int)} {n : Nat} (h : n < ks.length) (hx : ks[n] ∈ hdsL ks n) {j : Nat} (hj : (hdsL ks n).idxOf ks[n] = j) (hjl : j < (grpL ks n).length) :
    grpL ks (n + 1) = (grpL ks n).set j ((grpL ks n)[j] ++ [(n : Int)]) := by
  have hjh : j < (hdsL ks n).length := by rw [grpL_len] at hjl; exact hjl
  have hjx : (hdsL ks n)[j] = ks[n] := by subst hj; simp
  apply List.ext_getElem?
  intro i
  unfold grpL
  rw [hdsL_succ h, if_pos hx, List.getElem?_map]
  by_cases hij : i = j
  · subst hij
    rw [List.getElem?_set_self (by simpa using hjh)]
    simp only [List.getElem_map, List.getElem?_eq_getElem hjh, Option.map_some]
    rw [clsL_succ h, if_pos hjx.symm]
    simp only [Option.some.injEq, List.append_cancel_right_eq]
    exact (List.getElem_map _).symm
  · rw [List.getElem?_set_ne (by omega), List.getElem?_map]
    cases hq : (hdsL ks n)[i]? with
    | none => rfl
    | some y =>
      simp only [Option.map_some]
      have hne : ks[n] ≠ y := by
        intro e
        subst e
        have h1 := (List.getElem?_eq_some_iff.1 hq)
        obtain ⟨h1, h2⟩ := h1
        have e1 := List.Nodup.idxOf_getElem (hdsL_nodup ks n) i h1
        rw [h2, hj] at e1
        exact hij e1.symm
      rw [clsL_succ h, if_neg hne, List.append_nil]
/-- the first of a group tells its head. -/
theorem grpL_first {ks : List (List Int)} {n : Nat} (hn : n ≤ ks.length) {j : Nat} (hj : j < (grpL ks n).length) : ∃ (hjh : j < (hdsL ks n).length) (k : Nat), (grpL ks n)[j].head? = some (k : Int) ∧ k < n ∧ ks[k]? = some (hdsL ks n)[j] := by
  have hjh : j < (hdsL ks n).length := by rw [grpL_len] at hj; exact hj
  refine ⟨hjh, ?_⟩
  have e : (grpL ks n)[j] = clsL ks n (hdsL ks n)[j] := by simp [grpL]
  rw [e]
  have hne := clsL_ne hn (List.getElem_mem hjh)
  cases hc : clsL ks n (hdsL ks n)[j] with
  | nil => exact absurd hc hne
  | cons a r =>
    have : a ∈ clsL ks n (hdsL ks n)[j] := by rw [hc]; simp
    obtain ⟨k, rfl, h1, h2⟩ := clsL_mem.1 this
    exact ⟨k, rfl, h1, h2⟩
end Go.Proofs.YtpflkjldapmgdaaGreat
