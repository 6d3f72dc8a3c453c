/-
  WHAT IT HOLDS: the contract of key of package unify: a list of small numbers as a text. Conditions: the argument reads as data; its numbers lie in -12 .. 200; it is not empty and has at most 1000 numbers.
  WHAT IT HOLDS: a plain function that says what the join of two terms computes (com), with the pairs that it has named so far; how it is put together over lists of terms. No program in sight. No condition.
  WHAT IT HOLDS: plain theory of unification, the steps: what the state of a solver says (UInv), that each step of the solver keeps it and comes nearer to the end, and what the end says (Mgu, or no unifier). No program in sight. Condition: the lists are terms.
  WHAT IT HOLDS: plain theory of joins and of canonical forms with few variables: both terms are instances of their join, and each term that has both as instances has their join. No program in sight. Condition: the lists are terms.
-/
import Derived.Laws.IdiomStrings
import Derived.Test.YtmpjaakkjhmpmaaGreatDoorZRShortCites2
import Derived.Test.YtmpjaakkjhmpmaaGreatDoorZRShortCites1
import Derived.Test.YtmpjaakkjhmpmaaGreatDoorZRShortCites5
namespace Go.Proofs.YtmpjaakkjhmpmaaGreatDoor
open Go Go.RowKit Go.Maps
end Go.Proofs.YtmpjaakkjhmpmaaGreatDoor
namespace Go.Proofs.YtmpjaakkjhmpmaaGreatDoor

end Go.Proofs.YtmpjaakkjhmpmaaGreatDoor
namespace Go.Proofs.YtmpjaakkjhmpmaaGreatDoor

abbrev Pr := List Int × List Int
def BIG : Nat := 60 ^ 30
def ub (m : MM) : Nat := ((List.range 24).filter fun i : Nat => (m (-(i : Int) - 1)).isNone).length
def wt (m : MM) (L : List Pr) : Nat := (L.map fun p => (fw m p.1).length).sum
def meas (m : MM) (L : List Pr) : Nat := ub m * BIG + wt m L
theorem wt_append (m : MM) (L K : List Pr) : wt m (L ++ K) = wt m L + wt m K := by simp [wt]
theorem wt_one (m : MM) (p : Pr) : wt m [p] = (fw m p.1).length := by simp [wt]
theorem ub_upd {m : MM} {v : Int} {q : List Int} (hm : m v = none) (h1 : -24 ≤ v) (h2 : v < 0) : ub (updM m v q) < ub m := by
  refine filter_lt _ _ _ (fun i _ hi => ?_) ⟨(-v - 1).toNat, List.mem_range.2 (by omega), ?_, ?_⟩
  · by_cases e : -(i : Int) - 1 = v
    · rw [e, updM_same] at hi; simp at hi
    · rwa [updM_ne m q e] at hi
  · rw [show -(((-v - 1).toNat : Nat) : Int) - 1 = v by omega, updM_same]; rfl
  · rw [show -(((-v - 1).toNat : Nat) : Int) - 1 = v by omega, hm]; rfl
theorem wt_le {s : Sg} {m : MM} (h : MOK s m) : ∀ (L : List Pr), (∀ p ∈ L, p.1.length ≤ 60) → wt m L ≤ L.length * 60 ^ 26
  | [], _ => by simp [wt]
  | p :: L, hl => by
    have ih := wt_le h L fun x hx => hl x (by simp [hx])
    have := fw_len h (hl p (by simp))
    have e : wt m (p :: L) = (fw m p.1).length + wt m L := by simp [wt]
    rw [e, List.length_cons, Nat.succ_mul]
    omega

/-- a term, looked up. -/
structure Lk (s : Sg) (m : MM) (t t' : List Int) : Prop where
  fwe : fw m t' = fw m t
  sub : ∀ σ, Sol m σ → subL σ t' = subL σ t
  T : IsT s 24 t'
  len : t'.length ≤ 60
theorem Lk.refl {s : Sg} {m : MM} {t : List Int} (h : IsT s 24 t) (hl : t.length ≤ 60) : Lk s m t t := ⟨rfl, fun _ _ => rfl, h, hl⟩
theorem Lk.next {s : Sg} {m : MM} (h : MOK s m) {t u : List Int} {v : Int} (k : Lk s m t [v]) (hv : m v = some u) : Lk s m t u := by
  obtain ⟨h1, h2, h3, h4⟩ := h.val v u hv
  refine ⟨?_, fun σ hσ => ?_, h3, h4⟩
  · rw [← k.fwe]; exact (sg_some h hv).symm
  · rw [← k.sub σ hσ, subL_one, if_pos h2]; exact (hσ v u hv).symm
theorem Lk.trans {s : Sg} {m : MM} {t u v : List Int} (h : Lk s m t u) (k : Lk s m u v) : Lk s m t v := ⟨k.fwe.trans h.fwe, fun σ hσ => (k.sub σ hσ).trans (h.sub σ hσ), k.T, k.len⟩
/-- a term's first number: a variable alone, or a symbol. -/
theorem IsT.head_var {s : Sg} {q : Int} {x : Int} {r : List Int} (h : IsT s q (x :: r)) (hx : x < 0) : r = [] ∧ -q ≤ x := by
  generalize ht : x :: r = t at h
  cases h with
  | var n h1 h2 => simp at ht; obtain ⟨rfl, rfl⟩ := ht; exact ⟨rfl, h1⟩
  | app c ars _ _ _ => simp at ht; omega
theorem IsT.head_app {s : Sg} {q : Int} {x : Int} {r : List Int} (h : IsT s q (x :: r)) (hx : 0 ≤ x) : ∃ (c : Nat) (ars : List (List Int)), x = c ∧ r = ars.flatten ∧ c < s.length ∧ (ars.length : Int) = arOf s c ∧ ∀ a ∈ ars, IsT s q a := by
  generalize ht : x :: r = t at h
  cases h with
  | var n h1 h2 => simp at ht; omega
  | app c ars h1 h2 h3 => simp at ht; exact ⟨c, ars, ht.1, ht.2, h1, h2, h3⟩

structure UInv (s : Sg) (a b : List Int) (m : MM) (L : List Pr) : Prop where
  ta : IsT s 24 a
  la : a.length ≤ 60
  ok : MOK s m
  prs : ∀ p ∈ L, IsT s 24 p.1 ∧ IsT s 24 p.2 ∧ p.1.length ≤ 60 ∧ p.2.length ≤ 60
  eqv : ∀ σ, TS s σ → (subL σ a = subL σ b ↔ Sol m σ ∧ ∀ p ∈ L, subL σ p.1 = subL σ p.2)
  dep : ∀ (i : Nat) (p : Pr), L[i]? = some p → ∃ d, i ≤ 3 * d ∧ Dp s d (fw m p.1) (fw m a)
/-- binds that are most general. -/
def Mgu (s : Sg) (a b : List Int) (m : MM) : Prop := MOK s m ∧ ∀ σ, TS s σ → (subL σ a = subL σ b ↔ Sol m σ)
def NoU (s : Sg) (a b : List Int) : Prop := ∀ σ, TS s σ → subL σ a ≠ subL σ b
theorem MOK.empty (s : Sg) : MOK s noM := ⟨fun _ _ h => (by cases h), fun _ => 0, (fun _ _ h => by cases h), fun _ => Nat.zero_le _⟩
theorem UInv.start {s : Sg} {a b : List Int} (ha : IsT s 24 a) (hb : IsT s 24 b) (la : a.length ≤ 60) (lb : b.length ≤ 60) : UInv s a b noM [(a, b)] := by
  refine ⟨ha, la, MOK.empty s, by simpa using ⟨ha, hb, la, lb⟩, fun σ _ => by simp [Sol, noM], fun i p h => ?_⟩
  cases i with
  | zero => simp at h; subst h; exact ⟨0, by omega, .here _⟩
  | succ i => simp at h
theorem UInv.done {s : Sg} {a b : List Int} {m : MM} (h : UInv s a b m []) : Mgu s a b m := ⟨h.ok, fun σ hσ => by simpa using h.eqv σ hσ⟩
theorem UInv.len {s : Sg} {a b : List Int} {m : MM} {L : List Pr} (h : UInv s a b m L) : L.length ≤ 4681 := by
  cases hL : L.length with
  | zero => omega
  | succ n =>
    have hn : n < L.length := by omega
    obtain ⟨d, h1, h2⟩ := h.dep n L[n] (by simp [hn])
    have := h2.le (fw_ht h.ok h.ta h.la)
    omega
theorem UInv.wt_lt {s : Sg} {a b : List Int} {m : MM} {L : List Pr} (h : UInv s a b m L) : wt m L < BIG := by
  have h1 := wt_le h.ok L fun p hp => (h.prs p hp).2.2.1
  have h2 := h.len
  have h3 : L.length * 60 ^ 26 ≤ 4681 * 60 ^ 26 := Nat.mul_le_mul_right _ h2
  unfold BIG
  have h4 : (4681 : Nat) * 60 ^ 26 < 60 ^ 30 := by decide
  omega
/-- the pair on top, looked up. -/
theorem UInv.top {s : Sg} {a b : List Int} {m : MM} {L : List Pr} {x y p q : List Int} (h : UInv s a b m (L ++ [(x, y)])) (hp : Lk s m x p) (hq : Lk s m y q) (σ : Int → List Int) (hσ : TS s σ) :
    subL σ a = subL σ b ↔ Sol m σ ∧ (∀ r ∈ L, subL σ r.1 = subL σ r.2) ∧ subL σ p = subL σ q := by
  rw [h.eqv σ hσ]
  constructor
  · rintro ⟨h1, h2⟩
    exact ⟨h1, fun r hr => h2 r (by simp [hr]), by rw [hp.sub σ h1, hq.sub σ h1]; exact h2 (x, y) (by simp)⟩
  · rintro ⟨h1, h2, h3⟩
    refine ⟨h1, fun r hr => ?_⟩
    rcases List.mem_append.1 hr with hr | hr
    · exact h2 r hr
    · simp at hr; subst hr
      rw [hp.sub σ h1, hq.sub σ h1] at h3; exact h3
theorem UInv.rest {s : Sg} {a b : List Int} {m : MM} {L : List Pr} {x : Pr} (h : UInv s a b m (L ++ [x])) : (∀ p ∈ L, IsT s 24 p.1 ∧ IsT s 24 p.2 ∧ p.1.length ≤ 60 ∧ p.2.length ≤ 60) ∧ (∀ (i : Nat) (p : Pr), L[i]? = some p → ∃ d, i ≤ 3 * d ∧ Dp s d (fw m p.1) (fw m a)) :=
  ⟨fun p hp => h.prs p (by simp [hp]), fun i p hi => h.dep i p (by
    rw [List.getElem?_append_left]
    · exact hi
    · exact (List.getElem?_eq_some_iff.1 hi).1)⟩
/-- both are one variable. -/
theorem UInv.drop {s : Sg} {a b : List Int} {m : MM} {L : List Pr} {x y p : List Int} (h : UInv s a b m (L ++ [(x, y)])) (hp : Lk s m x p) (hq : Lk s m y p) : UInv s a b m L ∧ meas m L < meas m (L ++ [(x, y)]) := by
  refine ⟨⟨h.ta, h.la, h.ok, h.rest.1, fun σ hσ => ?_, h.rest.2⟩, ?_⟩
  · rw [h.top hp hq σ hσ]; simp
  · have : 0 < (fw m x).length := (fw_T h.ok (h.prs (x, y) (by simp)).1).ne
    unfold meas
    rw [wt_append, wt_one]
    show _ < _ + (_ + (fw m x).length)
    omega
/-- a variable that comes in the other part: no unifier. -/
theorem UInv.occurs {s : Sg} {a b : List Int} {m : MM} {L : List Pr} {x y q : List Int} {v : Int} (h : UInv s a b m (L ++ [(x, y)])) (hor : (Lk s m x [v] ∧ Lk s m y q) ∨ (Lk s m y [v] ∧ Lk s m x q)) (hv : v < 0) (hm : m v = none)
    (hqv : ∀ w, w < 0 → q.head? = some w → w ≠ v ∧ m w = none) (H : Reach m q v) : NoU s a b := by
  intro σ hσ e
  have hq : IsT s 24 q := by rcases hor with h | h <;> exact h.2.T
  have key : Sol m σ ∧ σ v = subL σ q := by
    rcases hor with ⟨h1, h2⟩ | ⟨h1, h2⟩
    · have := (h.top h1 h2 σ hσ).1 e
      exact ⟨this.1, by have := this.2.2; rwa [subL_one, if_pos hv] at this⟩
    · have := (h.top h2 h1 σ hσ).1 e
      exact ⟨this.1, by have := this.2.2; rw [subL_one, if_pos hv] at this; exact this.symm⟩
  cases q with
  | nil => exact absurd rfl hq.nonempty
  | cons c q =>
    by_cases hc : c < 0
    · obtain ⟨h1, h2⟩ := hqv c hc rfl
      obtain ⟨hr, _⟩ := hq.head_var hc
      subst hr
      cases H with
      | here _ _ g1 g2 => simp at g1; exact h1 g1.symm
      | step _ _ n p g1 g2 g3 g4 => simp at g1; subst g1; rw [h2] at g3; cases g3
    · exact occurs_no h.ok hm (by omega) hq H hσ key.1 key.2
/-- a variable becomes the other part. -/
theorem UInv.bind {s : Sg} {a b : List Int} {m : MM} {L : List Pr} {x y q : List Int} {v : Int} (h : UInv s a b m (L ++ [(x, y)])) (hor : (Lk s m x [v] ∧ Lk s m y q) ∨ (Lk s m y [v] ∧ Lk s m x q)) (hv : v < 0) (hm : m v = none)
    (H : ¬ Reach m q v) : UInv s a b (updM m v q) L ∧ meas (updM m v q) L < meas m (L ++ [(x, y)]) := by
  have hq : Lk s m x q ∨ Lk s m y q := by rcases hor with h | h <;> simp [h.2]
  have hqT : IsT s 24 q ∧ q.length ≤ 60 := by rcases hq with h | h <;> exact ⟨h.T, h.len⟩
  have hv24 : -24 ≤ v := by
    have : IsT s 24 [v] := by rcases hor with h | h <;> exact h.1.T
    exact this.vars v (by simp) hv
  have hok := h.ok.bind hv24 hv hqT.1 hqT.2 H
  have hsol : Sol m (sg (updM m v q)) := ((sol_upd hm _).1 (sg_sol hok)).1
  have hI : UInv s a b (updM m v q) L := by
    refine ⟨h.ta, h.la, hok, h.rest.1, fun σ hσ => ?_, fun i p hi => ?_⟩
    · rw [sol_upd hm]
      rcases hor with ⟨h1, h2⟩ | ⟨h1, h2⟩
      · rw [h.top h1 h2 σ hσ, subL_one, if_pos hv]
        constructor
        · rintro ⟨a, b, c⟩; exact ⟨⟨a, c⟩, b⟩
        · rintro ⟨⟨a, c⟩, b⟩; exact ⟨a, b, c⟩
      · rw [h.top h2 h1 σ hσ, subL_one, if_pos hv]
        constructor
        · rintro ⟨a, b, c⟩; exact ⟨⟨a, c.symm⟩, b⟩
        · rintro ⟨⟨a, c⟩, b⟩; exact ⟨a, b, c.symm⟩
    · obtain ⟨d, h1, h2⟩ := h.rest.2 i p hi
      refine ⟨d, h1, ?_⟩
      rw [fw_upd h.ok hok hsol, fw_upd h.ok hok hsol]
      exact h2.sub fun w h1 h2 => sg_T hok h1 h2
  refine ⟨hI, ?_⟩
  have h1 := ub_upd (q := q) hm hv24 hv
  have h2 := hI.wt_lt
  have h3 : (ub (updM m v q) + 1) * BIG ≤ ub m * BIG := Nat.mul_le_mul_right _ h1
  rw [Nat.add_mul, Nat.one_mul] at h3
  unfold meas
  omega
/-- two symbols: no unifier. -/
theorem UInv.clash {s : Sg} {a b : List Int} {m : MM} {L : List Pr} {x y p q : List Int} {c c' : Int} (h : UInv s a b m (L ++ [(x, y)])) (hp : Lk s m x (c :: p)) (hq : Lk s m y (c' :: q)) (h1 : 0 ≤ c) (h2 : 0 ≤ c') (hne : c ≠ c') : NoU s a b := by
  intro σ hσ e
  have := ((h.top hp hq σ hσ).1 e).2.2
  rw [subL_cons_app _ h1, subL_cons_app _ h2] at this
  exact hne (List.cons.inj this).1
theorem zip_all {α β : Type} {P : α → Prop} {Q : β → Prop} : ∀ {ars : List α} {bs : List β}, (∀ a ∈ ars, P a) → (∀ b ∈ bs, Q b) → ∀ r ∈ ars.zip bs, P r.1 ∧ Q r.2 := by
  intro ars bs h1 h2 r hr
  obtain ⟨a, b⟩ := r
  exact ⟨h1 a (List.of_mem_zip hr).1, h2 b (List.of_mem_zip hr).2⟩
theorem map_zip_eq {α β : Type} (f g : α → β) : ∀ (ars bs : List α), ars.length = bs.length → ((∀ r ∈ ars.zip bs, f r.1 = g r.2) ↔ ars.map f = bs.map g)
  | [], [], _ => by simp
  | a :: ars, b :: bs, h => by
    have := map_zip_eq f g ars bs (by simpa using h)
    simp only [List.zip_cons_cons, List.mem_cons, List.map_cons, List.cons.injEq]
    rw [← this]
    constructor
    · intro h; exact ⟨h (a, b) (Or.inl rfl), fun r hr => h r (Or.inr hr)⟩
    · rintro ⟨h1, h2⟩ r (rfl | hr)
      · exact h1
      · exact h2 r hr
theorem wt_zip {m : MM} : ∀ (ars bs : List (List Int)), ars.length = bs.length → wt m (ars.zip bs) = (fw m ars.flatten).length
  | [], [], _ => by rw [show (([] : List (List Int)).flatten) = [] from rfl]; unfold fw; rw [full_nil]; rfl
  | a :: ars, b :: bs, h => by
    have := wt_zip (m := m) ars bs (by simpa using h)
    rw [List.zip_cons_cons, List.flatten_cons, fw_append, List.length_append, ← this]
    simp [wt]
theorem flat_le {a : List Int} : ∀ {ars : List (List Int)}, a ∈ ars → a.length ≤ ars.flatten.length
  | [], h => by cases h
  | b :: bs, h => by
    rw [List.flatten_cons, List.length_append]
    rcases List.mem_cons.1 h with rfl | h
    · omega
    · have := flat_le h; omega
/-- two parts with one symbol: their arguments, two by two. -/
theorem UInv.args {s : Sg} (hsg : signB s = true) {a b : List Int} {m : MM} {L : List Pr} {x y : List Int} {c : Nat} {ars bs : List (List Int)} (h : UInv s a b m (L ++ [(x, y)])) (hp : Lk s m x ((c : Int) :: ars.flatten)) (hq : Lk s m y ((c : Int) :: bs.flatten))
    (ha : (ars.length : Int) = arOf s c) (hb : (bs.length : Int) = arOf s c) (h1 : ∀ a ∈ ars, IsT s 24 a) (h2 : ∀ b ∈ bs, IsT s 24 b) : UInv s a b m (L ++ ars.zip bs) ∧ meas m (L ++ ars.zip bs) < meas m (L ++ [(x, y)]) := by
  have hl : ars.length = bs.length := by omega
  refine ⟨⟨h.ta, h.la, h.ok, fun p hp' => ?_, fun σ hσ => ?_, fun i p hi => ?_⟩, ?_⟩
  · rcases List.mem_append.1 hp' with hp' | hp'
    · exact h.rest.1 p hp'
    · have g := zip_all h1 h2 p hp'
      have g2 := zip_all (P := fun u : List Int => u.length ≤ ars.flatten.length) (Q := fun u : List Int => u.length ≤ bs.flatten.length) (fun _ h => flat_le h) (fun _ h => flat_le h) p hp'
      have g3 := hp.len
      have g4 := hq.len
      simp at g3 g4
      simp at g2
      exact ⟨g.1, g.2, by omega, by omega⟩
  · rw [h.top hp hq σ hσ, subL_node, subL_node]
    obtain ⟨w, hw⟩ := hσ
    have e : (((c : Int) :: (ars.map (subL σ)).flatten) = ((c : Int) :: (bs.map (subL σ)).flatten)) ↔ ∀ r ∈ ars.zip bs, subL σ r.1 = subL σ r.2 := by
      rw [map_zip_eq _ _ _ _ hl]
      constructor
      · intro e
        refine app_unique (s := s) (m := w) (fun z hz => ?_) (fun z hz => ?_) (by simpa using hl) e
        · obtain ⟨u, hu, rfl⟩ := List.mem_map.1 hz
          exact subL_T hw (h1 u hu)
        · obtain ⟨u, hu, rfl⟩ := List.mem_map.1 hz
          exact subL_T hw (h2 u hu)
      · intro e; rw [e]
    rw [e]
    constructor
    · rintro ⟨u, v, w⟩
      refine ⟨u, fun r hr => ?_⟩
      rcases List.mem_append.1 hr with hr | hr
      · exact v r hr
      · exact w r hr
    · rintro ⟨u, v⟩
      exact ⟨u, fun r hr => v r (by simp [hr]), fun r hr => v r (by simp [hr])⟩
  · by_cases hiL : i < L.length
    · rw [List.getElem?_append_left hiL] at hi
      exact h.rest.2 i p hi
    · rw [List.getElem?_append_right (by omega)] at hi
      obtain ⟨d, g1, g2⟩ := h.dep L.length (x, y) (by simp)
      have hlt : i - L.length < ars.length := by
        have := (List.getElem?_eq_some_iff.1 hi).1
        simp at this; omega
      have har := signB_ar' hsg c
      refine ⟨d + 1, by omega, ?_⟩
      have hmem : p.1 ∈ ars := (List.of_mem_zip (by exact List.mem_of_getElem? hi : (p.1, p.2) ∈ ars.zip bs)).1
      have e : fw m x = (c : Int) :: (ars.map (subL (sg m))).flatten := by rw [← hp.fwe, fw_sub h.ok, subL_node]
      rw [fw_sub h.ok p.1]
      refine Dp.arg g2 e (by simpa using ha) (fun z hz => ?_) (List.mem_map.2 ⟨p.1, hmem, rfl⟩)
      obtain ⟨u, hu, rfl⟩ := List.mem_map.1 hz
      exact subL_T (fun v h1 h2 => sg_T h.ok h1 h2) (h1 u hu)
  · unfold meas
    rw [wt_append, wt_append, wt_one, wt_zip ars bs hl]
    have e : fw m x = (c : Int) :: fw m ars.flatten := by rw [← hp.fwe, fw_app _ (by omega)]
    show _ < _ + (_ + (fw m x).length)
    rw [e, List.length_cons]
    omega

/-! ### what most general binds are good for -/
theorem Mgu.sol {s : Sg} {a b : List Int} {m : MM} (h : Mgu s a b m) : subL (sg m) a = subL (sg m) b := (h.2 _ (sg_TS h.1)).2 (sg_sol h.1)
theorem Mgu.not_no {s : Sg} {a b : List Int} {m : MM} (h : Mgu s a b m) (k : NoU s a b) : False := k _ (sg_TS h.1) h.sol
theorem Mgu.gen {s : Sg} {a b : List Int} {m : MM} (h : Mgu s a b m) {σ : Int → List Int} (hσ : TS s σ) (e : subL σ a = subL σ b) (t : List Int) : subL σ (fw m t) = subL σ t := sol_fw ((h.2 σ hσ).1 e) t
/-- what two most general binds make of a term is alike. -/
theorem Mgu.canon {s : Sg} {a b : List Int} {m m' : MM} (h : Mgu s a b m) (h' : Mgu s a b m') {t : List Int} (ht : IsT s 24 t) : canonL (fw m t) = canonL (fw m' t) := by
  have key : ∀ {m m' : MM}, Mgu s a b m → Mgu s a b m' → Inst s 24 (fw m t) (fw m' t) := by
    intro m m' h h'
    refine ⟨sg m', fun n hn hn0 => sg_T h'.1 ((fw_T h.1 ht).vars n hn hn0) hn0, ?_⟩
    rw [h.gen (sg_TS h'.1) h'.sol, fw_sub h'.1]
  exact inst_alike (key h h') (key h' h)
end Go.Proofs.YtmpjaakkjhmpmaaGreatDoor
namespace Go.Proofs.YtmpjaakkjhmpmaaGreatDoor
/-- c is told of a and b, part by part; N says which pair of parts has which name. -/
inductive JR (s : Sg) (N : List Int → List Int → Int → Prop) : List Int → List Int → List Int → Prop
  | nil : JR s N [] [] []
  | same (x : Int) (a b c : List Int) : 0 ≤ x → JR s N a b c → JR s N (x :: a) (x :: b) (x :: c)
  | diff (p q a b c : List Int) (n : Int) : IsT s 12 p → IsT s 12 q → ¬ (∃ x, 0 ≤ x ∧ p.head? = some x ∧ q.head? = some x) → N p q n → JR s N a b c → JR s N (p ++ a) (q ++ b) (n :: c)
theorem cut1 {s : Sg} {m : Int} {p p' a a' : List Int} (h : IsT s m p) (h' : IsT s m p') (e : p ++ a = p' ++ a') : p = p' ∧ a = a' := by
  have := cut_unique (s := s) (m := m) [p] [p'] a a' (by simpa using h) (by simpa using h') rfl (by simpa using e)
  exact ⟨by simpa using this.1, this.2⟩
theorem JR.nil_left {s : Sg} {N : List Int → List Int → Int → Prop} {b c : List Int} (h : JR s N [] b c) : b = [] ∧ c = [] := by
  generalize ha : ([] : List Int) = a at h
  cases h with
  | nil => exact ⟨rfl, rfl⟩
  | same => cases ha
  | diff p q a b c n h1 _ _ _ _ => exact absurd (List.append_eq_nil_iff.1 ha.symm).1 h1.nonempty
theorem JR.cons_inv {s : Sg} {N : List Int → List Int → Int → Prop} {x : Int} {a b c : List Int} (h : JR s N (x :: a) b c) :
    (∃ b' c', b = x :: b' ∧ c = x :: c' ∧ 0 ≤ x ∧ JR s N a b' c') ∨ (∃ p q a' b' c' n, x :: a = p ++ a' ∧ b = q ++ b' ∧ c = n :: c' ∧ IsT s 12 p ∧ IsT s 12 q ∧ ¬ (∃ x, 0 ≤ x ∧ p.head? = some x ∧ q.head? = some x) ∧ N p q n ∧ JR s N a' b' c') := by
  generalize ha : x :: a = y at h
  cases h with
  | nil => cases ha
  | same z a' b' c' h1 h2 => cases ha; exact Or.inl ⟨_, _, rfl, rfl, h1, h2⟩
  | diff p q a b c n h1 h2 h3 h4 h5 => exact Or.inr ⟨p, q, a, b, c, n, rfl, rfl, rfl, h1, h2, h3, h4, h5⟩
theorem head_of_append {p a : List Int} {x : Int} {l : List Int} (h : p ≠ []) (e : x :: l = p ++ a) : p.head? = some x := by
  cases p with
  | nil => exact absurd rfl h
  | cons y p => simp at e; simp [e.1]
theorem JR.det {s : Sg} {N : List Int → List Int → Int → Prop} (hN : ∀ p q n n', N p q n → N p q n' → n = n') {a b c : List Int} (h : JR s N a b c) : ∀ {c' : List Int}, JR s N a b c' → c = c' := by
  induction h with
  | nil => intro c' h; exact (h.nil_left).2.symm
  | same x a b c h1 h2 ih =>
    intro c' h
    rcases h.cons_inv with ⟨b', c'', e1, e2, _, h3⟩ | ⟨p, q, a', b', c'', n, e1, e2, e3, h3, h4, h5, _, _⟩
    · simp at e1; subst e1; rw [e2, ih h3]
    · exact absurd ⟨x, h1, head_of_append h3.nonempty e1, head_of_append h4.nonempty e2⟩ h5
  | diff p q a b c n h1 h2 h3 h4 h5 ih =>
    intro c' h
    cases hp : p ++ a with
    | nil => exact absurd (List.append_eq_nil_iff.1 hp).1 h1.nonempty
    | cons x l =>
      rw [hp] at h
      rcases h.cons_inv with ⟨b', c'', e1, e2, h6, _⟩ | ⟨p', q', a', b', c'', n', e1, e2, e3, h6, h7, _, h8, h9⟩
      · exact absurd ⟨x, h6, head_of_append h1.nonempty hp.symm, head_of_append h2.nonempty e1.symm⟩ h3
      · obtain ⟨rfl, rfl⟩ := cut1 h1 h6 (hp.trans e1)
        obtain ⟨rfl, rfl⟩ := cut1 h2 h7 e2
        rw [e3, hN _ _ _ _ h4 h8, ih h9]
theorem JR.append {s : Sg} {N : List Int → List Int → Int → Prop} {a b c a' b' c' : List Int} (h : JR s N a b c) (h' : JR s N a' b' c') : JR s N (a ++ a') (b ++ b') (c ++ c') := by
  induction h with
  | nil => exact h'
  | same x a b c h1 _ ih => exact .same x _ _ _ h1 ih
  | diff p q a b c n h1 h2 h3 h4 _ ih => rw [List.append_assoc, List.append_assoc]; exact .diff p q _ _ _ n h1 h2 h3 h4 ih
theorem JR.split {s : Sg} {N : List Int → List Int → Int → Prop} : ∀ (len : Nat) (p : List Int) (k : Nat) (q a b c : List Int), p.length = len → Fo s 12 k p → Fo s 12 k q → JR s N (p ++ a) (q ++ b) c → ∃ c1 c2, c = c1 ++ c2 ∧ JR s N p q c1 ∧ JR s N a b c2 := by
  intro len
  induction len using Nat.strongRecOn with
  | ind len ih =>
    intro p k q a b c hl hp hq h
    cases p with
    | nil =>
      have := hp.of_nil
      subst this
      have := hq.zero
      subst this
      exact ⟨[], c, rfl, .nil, h⟩
    | cons x p =>
      obtain ⟨k', rfl, hx⟩ := hp.cons_inv
      rcases h.cons_inv with ⟨b', c', e1, rfl, hx0, h3⟩ | ⟨p', q', a', b', c', n, e1, e2, rfl, h3, h4, h5, h6, h7⟩
      · rcases hx with ⟨h1, _, _⟩ | ⟨_, _, y, rfl, r, hr, hf⟩
        · omega
        · cases q with
          | nil => have := hq.of_nil; omega
          | cons z q =>
            simp at e1
            obtain ⟨rfl, rfl⟩ := e1
            obtain ⟨k2, hk2, ⟨g1, _, _⟩ | ⟨_, _, _, _, r2, hr2, hg⟩⟩ := hq.cons_inv
            · omega
            · have e3 : r2 = r := by rw [hr2] at hr; omega
              have e4 : k2 = k' := by omega
              subst e3 e4
              obtain ⟨c1, c2, rfl, g1, g2⟩ := ih p.length (by simp at hl; omega) p _ q a b c' rfl hf hg h3
              exact ⟨_, c2, rfl, .same _ _ _ _ hx0 g1, g2⟩
      · obtain ⟨p0, p1, e3, hp0, hp1⟩ := hp.split
        obtain ⟨q0, q1, e4, hq0, hq1⟩ := hq.split
        rw [e4, List.append_assoc] at e2
        have e1' : (x :: p) ++ a = p' ++ a' := e1
        rw [e3, List.append_assoc] at e1'
        obtain ⟨rfl, rfl⟩ := cut1 hp0 h3 e1'
        obtain ⟨rfl, rfl⟩ := cut1 hq0 h4 e2
        have hlen := congrArg List.length e3
        rw [List.length_append] at hlen
        have := hp0.ne
        obtain ⟨c1, c2, rfl, g1, g2⟩ := ih p1.length (by omega) p1 _ q1 a b c' rfl hp1 hq1 h7
        rw [e3, e4]
        exact ⟨_, c2, rfl, .diff _ _ _ _ _ n h3 h4 h5 h6 g1, g2⟩
/-- what the join has in place of its names. -/
theorem JR.named {s : Sg} {N : List Int → List Int → Int → Prop} {a b c : List Int} (h : JR s N a b c) : ∀ n ∈ c, n < 0 → ∃ p q, IsT s 12 p ∧ IsT s 12 q ∧ N p q n := by
  induction h with
  | nil => intro n hn; cases hn
  | same x a b c h1 _ ih =>
    intro n hn hn0
    rcases List.mem_cons.1 hn with rfl | hn
    · omega
    · exact ih n hn hn0
  | diff p q a b c n h1 h2 _ h4 _ ih =>
    intro y hn hn0
    rcases List.mem_cons.1 hn with rfl | hn
    · exact ⟨p, q, h1, h2, h4⟩
    · exact ih y hn hn0
theorem JR.fo {s : Sg} {N : List Int → List Int → Int → Prop} {m : Int} (hN : ∀ p q n, N p q n → -m ≤ n ∧ n < 0) {a b c : List Int} (h : JR s N a b c) : ∀ (k : Nat), Fo s 12 k a → Fo s m k c := by
  induction h with
  | nil => intro k h; have := h.of_nil; subst this; exact Fo.nil _ _
  | same x a b c h1 _ ih =>
    intro k h
    obtain ⟨k', rfl, ⟨g, _, _⟩ | ⟨g1, g2, y, rfl, r, hr, g3⟩⟩ := h.cons_inv
    · omega
    · exact Fo.cons_app (by omega) hr (ih _ g3)
  | diff p q a b c n h1 h2 _ h4 _ ih =>
    intro k h
    obtain ⟨g1, g2⟩ := hN p q n h4
    cases k with
    | zero => exact absurd (List.append_eq_nil_iff.1 h.zero).1 h1.nonempty
    | succ k =>
      obtain ⟨p', r, e, hp', hr⟩ := h.split
      obtain ⟨rfl, rfl⟩ := cut1 h1 hp' e
      exact Fo.cons_var g2 g1 (ih _ hr)
theorem Inst.mono {s : Sg} {q q' : Int} (h : q ≤ q') {a b : List Int} (k : Inst s q a b) : Inst s q' a b := by
  obtain ⟨σ, h1, h2⟩ := k
  exact ⟨σ, fun n hn hn0 => (h1 n hn hn0).mono h, h2⟩
theorem Inst.down {s : Sg} {q : Int} (hq : 12 ≤ q) {a b : List Int} (ha : IsT s 12 a) (hb : IsT s 12 b) (k : Inst s q a b) : Inst s 12 a b :=
  (inst_iff ha hb).1 ((inst_iff (ha.mono hq) (hb.mono hq)).2 k)
theorem canonL_sub (t : List Int) : canonL t = subL (fun n => [numV (varsF [] t) n]) t := by
  have : ∀ (vs u : List Int), u.map (numV vs) = subL (fun n => [numV vs n]) u := by
    intro vs u
    induction u with
    | nil => rfl
    | cons n u ih =>
      by_cases h : n < 0
      · rw [subL_cons_var _ h, ← ih]; rfl
      · rw [subL_cons_app _ (by omega), ← ih, List.map_cons]
        unfold numV
        rw [if_neg h]
  exact this _ _
theorem canonL_T {s : Sg} {q : Int} {t : List Int} (h : IsT s q t) (hv : (varsF [] t).length ≤ 12) : IsT s 12 (canonL t) := by
  rw [canonL_sub]
  refine h.sub fun n hn hn0 => ?_
  have hm : n ∈ varsF [] t := (varsF_mem t [] n).2 (Or.inr ⟨hn, hn0⟩)
  have := List.idxOf_lt_length_of_mem hm
  refine .var _ ?_ (numV_neg.2 hn0)
  unfold numV
  rw [if_pos hn0]; omega
theorem inst_canon {s : Sg} {q : Int} {t : List Int} (h : IsT s q t) : Inst s q (canonL t) t := canon_inst h (canonL_canon t)
end Go.Proofs.YtmpjaakkjhmpmaaGreatDoor
