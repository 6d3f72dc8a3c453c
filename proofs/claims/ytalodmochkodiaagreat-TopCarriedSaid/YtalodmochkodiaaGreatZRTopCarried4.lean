/-
  WHAT IT HOLDS: plain theory of unification, the steps: what the state of a solver says (UInv), that each step of the solver keeps it and comes nearer to the end, and what the end says (Mgu, or no unifier). No program in sight. Condition: the lists are terms.
  WHAT IT HOLDS: plain theory of terms carried by a dictionary: what a valid dictionary is, what it makes of a term, that a one-to-one dictionary carries substitutions, instances and unifiers there and back. No program in sight.
  WHAT IT HOLDS: the contract of key of package unify: a list of small numbers as a text. Conditions: the argument reads as data; its numbers lie in -12 .. 200; it is not empty and has at most 1000 numbers.
  WHAT IT HOLDS: a plain function that says what the join of two terms computes (com), with the pairs that it has named so far; how it is put together over lists of terms. No program in sight. No condition.
  WHAT IT HOLDS: plain theory of joins and of canonical forms with few variables: both terms are instances of their join, and each term that has both as instances has their join. No program in sight. Condition: the lists are terms.
-/
import Derived.Laws.IdiomStrings
import Derived.Test.YtalodmochkodiaaGreatZRTopCarried1
import Derived.Test.YtalodmochkodiaaGreatZRTopCarried3
import Derived.Test.YtalodmochkodiaaGreatZRTopCarried0
namespace Go.Proofs.YtalodmochkodiaaGreat

abbrev Pr := List Int × List Int
def BIG : Nat := 60 ^ 30
def ub (m : MM) : Nat := ((List.range 24).filter fun i : Nat => (m (-(i : Int) - 1)).isNone).length
def wt (m : MM) (L : List Pr) : Nat := (L.map fun p => (fw m p.1).length).sum
def meas (m : MM) (L : List Pr) : Nat := ub m * BIG + wt m L
theorem wt_append (m : MM) (L K : List Pr) : wt m (L ++ K) = wt m L + wt m K := by simp [wt]
theorem wt_one (m : MM) (p : Pr) : wt m [p] = (fw m p.1).length := by simp [wt]
theorem ub_upd {m : MM} {v : Int} {q : List Int} (hm : m v = none) (h1 : -24 ≤ v) (h2 : v < 0) : ub (updM m v q) < ub m := by
  refine filter_lt _ _ _ (fun i _ hi => ?_) ⟨(-v - 1).toNat, List.mem_range.2 (by omega), ?_, ?_⟩
  · by_cases e : -(i : Int) - 1 = v
    · rw [e, updM_same] at hi; simp at hi
    · rwa [updM_ne m q e] at hi
  · rw [show -(((-v - 1).toNat : Nat) : Int) - 1 = v by omega, updM_same]; rfl
  · rw [show -(((-v - 1).toNat : Nat) : Int) - 1 = v by omega, hm]; rfl
theorem wt_le {s : Sg} {m : MM} (h : MOK s m) : ∀ (L : List Pr), (∀ p ∈ L, p.1.length ≤ 60) → wt m L ≤ L.length * 60 ^ 26
  | [], _ => by simp [wt]
  | p :: L, hl => by
    have ih := wt_le h L fun x hx => hl x (by simp [hx])
    have := fw_len h (hl p (by simp))
    have e : wt m (p :: L) = (fw m p.1).length + wt m L := by simp [wt]
    rw [e, List.length_cons, Nat.succ_mul]
    omega

/-- a term, looked up. -/
structure Lk (s : Sg) (m : MM) (t t' : List Int) : Prop where
  fwe : fw m t' = fw m t
  sub : ∀ σ, Sol m σ → subL σ t' = subL σ t
  T : IsT s 24 t'
  len : t'.length ≤ 60
theorem Lk.refl {s : Sg} {m : MM} {t : List Int} (h : IsT s 24 t) (hl : t.length ≤ 60) : Lk s m t t := ⟨rfl, fun _ _ => rfl, h, hl⟩
theorem Lk.next {s : Sg} {m : MM} (h : MOK s m) {t u : List Int} {v : Int} (k : Lk s m t [v]) (hv : m v = some u) : Lk s m t u := by
  obtain ⟨h1, h2, h3, h4⟩ := h.val v u hv
  refine ⟨?_, fun σ hσ => ?_, h3, h4⟩
  · rw [← k.fwe]; exact (sg_some h hv).symm
  · rw [← k.sub σ hσ, subL_one, if_pos h2]; exact (hσ v u hv).symm
theorem Lk.trans {s : Sg} {m : MM} {t u v : List Int} (h : Lk s m t u) (k : Lk s m u v) : Lk s m t v := ⟨k.fwe.trans h.fwe, fun σ hσ => (k.sub σ hσ).trans (h.sub σ hσ), k.T, k.len⟩
/-- a term's first number: a variable alone, or a symbol. -/
theorem IsT.head_var {s : Sg} {q : Int} {x : Int} {r : List Int} (h : IsT s q (x :: r)) (hx : x < 0) : r = [] ∧ -q ≤ x := by
  generalize ht : x :: r = t at h
  cases h with
  | var n h1 h2 => simp at ht; obtain ⟨rfl, rfl⟩ := ht; exact ⟨rfl, h1⟩
  | app c ars _ _ _ => simp at ht; omega
theorem IsT.head_app {s : Sg} {q : Int} {x : Int} {r : List Int} (h : IsT s q (x :: r)) (hx : 0 ≤ x) : ∃ (c : Nat) (ars : List (List Int)), x = c ∧ r = ars.flatten ∧ c < s.length ∧ (ars.length : Int) = arOf s c ∧ ∀ a ∈ ars, IsT s q a := by
  generalize ht : x :: r = t at h
  cases h with
  | var n h1 h2 => simp at ht; omega
  | app c ars h1 h2 h3 => simp at ht; exact ⟨c, ars, ht.1, ht.2, h1, h2, h3⟩

structure UInv (s : Sg) (a b : List Int) (m : MM) (L : List Pr) : Prop where
  ta : IsT s 24 a
  la : a.length ≤ 60
  ok : MOK s m
  prs : ∀ p ∈ L, IsT s 24 p.1 ∧ IsT s 24 p.2 ∧ p.1.length ≤ 60 ∧ p.2.length ≤ 60
  eqv : ∀ σ, TS s σ → (subL σ a = subL σ b ↔ Sol m σ ∧ ∀ p ∈ L, subL σ p.1 = subL σ p.2)
  dep : ∀ (i : Nat) (p : Pr), L[i]? = some p → ∃ d, i ≤ 3 * d ∧ Dp s d (fw m p.1) (fw m a)
/-- binds that are most general. -/
def Mgu (s : Sg) (a b : List Int) (m : MM) : Prop := MOK s m ∧ ∀ σ, TS s σ → (subL σ a = subL σ b ↔ Sol m σ)
def NoU (s : Sg) (a b : List Int) : Prop := ∀ σ, TS s σ → subL σ a ≠ subL σ b
theorem MOK.empty (s : Sg) : MOK s noM := ⟨fun _ _ h => (by cases h), fun _ => 0, (fun _ _ h => by cases h), fun _ => Nat.zero_le _⟩
theorem UInv.start {s : Sg} {a b : List Int} (ha : IsT s 24 a) (hb : IsT s 24 b) (la : a.length ≤ 60) (lb : b.length ≤ 60) : UInv s a b noM [(a, b)] := by
  refine ⟨ha, la, MOK.empty s, by simpa using ⟨ha, hb, la, lb⟩, fun σ _ => by simp [Sol, noM], fun i p h => ?_⟩
  cases i with
  | zero => simp at h; subst h; exact ⟨0, by omega, .here _⟩
  | succ i => simp at h
theorem UInv.done {s : Sg} {a b : List Int} {m : MM} (h : UInv s a b m []) : Mgu s a b m := ⟨h.ok, fun σ hσ => by simpa using h.eqv σ hσ⟩
theorem UInv.len {s : Sg} {a b : List Int} {m : MM} {L : List Pr} (h : UInv s a b m L) : L.length ≤ 4681 := by
  cases hL : L.length with
  | zero => omega
  | succ n =>
    have hn : n < L.length := by omega
    obtain ⟨d, h1, h2⟩ := h.dep n L[n] (by simp [hn])
    have := h2.le (fw_ht h.ok h.ta h.la)
    omega
theorem UInv.wt_lt {s : Sg} {a b : List Int} {m : MM} {L : List Pr} (h : UInv s a b m L) : wt m L < BIG := by
  have h1 := wt_le h.ok L fun p hp => (h.prs p hp).2.2.1
  have h2 := h.len
  have h3 : L.length * 60 ^ 26 ≤ 4681 * 60 ^ 26 := Nat.mul_le_mul_right _ h2
  unfold BIG
  have h4 : (4681 : Nat) * 60 ^ 26 < 60 ^ 30 := by decide
  omega
/-- the pair on top, looked up. -/
theorem UInv.top {s : Sg} {a b : List Int} {m : MM} {L : List Pr} {x y p q : List Int} (h : UInv s a b m (L ++ [(x, y)])) (hp : Lk s m x p) (hq : Lk s m y q) (σ : Int → List Int) (hσ : TS s σ) :
    subL σ a = subL σ b ↔ Sol m σ ∧ (∀ r ∈ L, subL σ r.1 = subL σ r.2) ∧ subL σ p = subL σ q := by
  rw [h.eqv σ hσ]
  constructor
  · rintro ⟨h1, h2⟩
    exact ⟨h1, fun r hr => h2 r (by simp [hr]), by rw [hp.sub σ h1, hq.sub σ h1]; exact h2 (x, y) (by simp)⟩
  · rintro ⟨h1, h2, h3⟩
    refine ⟨h1, fun r hr => ?_⟩
    rcases List.mem_append.1 hr with hr | hr
    · exact h2 r hr
    · simp at hr; subst hr
      rw [hp.sub σ h1, hq.sub σ h1] at h3; exact h3
theorem UInv.rest {s : Sg} {a b : List Int} {m : MM} {L : List Pr} {x : Pr} (h : UInv s a b m (L ++ [x])) : (∀ p ∈ L, IsT s 24 p.1 ∧ IsT s 24 p.2 ∧ p.1.length ≤ 60 ∧ p.2.length ≤ 60) ∧ (∀ (i : Nat) (p : Pr), L[i]? = some p → ∃ d, i ≤ 3 * d ∧ Dp s d (fw m p.1) (fw m a)) :=
  ⟨fun p hp => h.prs p (by simp [hp]), fun i p hi => h.dep i p (by
    rw [List.getElem?_append_left]
    · exact hi
    · exact (List.getElem?_eq_some_iff.1 hi).1)⟩
/-- both are one variable. -/
theorem UInv.drop {s : Sg} {a b : List Int} {m : MM} {L : List Pr} {x y p : List Int} (h : UInv s a b m (L ++ [(x, y)])) (hp : Lk s m x p) (hq : Lk s m y p) : UInv s a b m L ∧ meas m L < meas m (L ++ [(x, y)]) := by
  refine ⟨⟨h.ta, h.la, h.ok, h.rest.1, fun σ hσ => ?_, h.rest.2⟩, ?_⟩
  · rw [h.top hp hq σ hσ]; simp
  · have : 0 < (fw m x).length := (fw_T h.ok (h.prs (x, y) (by simp)).1).ne
    unfold meas
    rw [wt_append, wt_one]
    show _ < _ + (_ + (fw m x).length)
    omega
/-- a variable that comes in the other part: no unifier. -/
theorem UInv.occurs {s : Sg} {a b : List Int} {m : MM} {L : List Pr} {x y q : List Int} {v : Int} (h : UInv s a b m (L ++ [(x, y)])) (hor : (Lk s m x [v] ∧ Lk s m y q) ∨ (Lk s m y [v] ∧ Lk s m x q)) (hv : v < 0) (hm : m v = none)
    (hqv : ∀ w, w < 0 → q.head? = some w → w ≠ v ∧ m w = none) (H : Reach m q v) : NoU s a b := by
  intro σ hσ e
  have hq : IsT s 24 q := by rcases hor with h | h <;> exact h.2.T
  have key : Sol m σ ∧ σ v = subL σ q := by
    rcases hor with ⟨h1, h2⟩ | ⟨h1, h2⟩
    · have := (h.top h1 h2 σ hσ).1 e
      exact ⟨this.1, by have := this.2.2; rwa [subL_one, if_pos hv] at this⟩
    · have := (h.top h2 h1 σ hσ).1 e
      exact ⟨this.1, by have := this.2.2; rw [subL_one, if_pos hv] at this; exact this.symm⟩
  cases q with
  | nil => exact absurd rfl hq.nonempty
  | cons c q =>
    by_cases hc : c < 0
    · obtain ⟨h1, h2⟩ := hqv c hc rfl
      obtain ⟨hr, _⟩ := hq.head_var hc
      subst hr
      cases H with
      | here _ _ g1 g2 => simp at g1; exact h1 g1.symm
      | step _ _ n p g1 g2 g3 g4 => simp at g1; subst g1; rw [h2] at g3; cases g3
    · exact occurs_no h.ok hm (by omega) hq H hσ key.1 key.2
/-- a variable becomes the other part. -/
theorem UInv.bind {s : Sg} {a b : List Int} {m : MM} {L : List Pr} {x y q : List Int} {v : Int} (h : UInv s a b m (L ++ [(x, y)])) (hor : (Lk s m x [v] ∧ Lk s m y q) ∨ (Lk s m y [v] ∧ Lk s m x q)) (hv : v < 0) (hm : m v = none)
    (H : ¬ Reach m q v) : UInv s a b (updM m v q) L ∧ meas (updM m v q) L < meas m (L ++ [(x, y)]) := by
  have hq : Lk s m x q ∨ Lk s m y q := by rcases hor with h | h <;> simp [h.2]
  have hqT : IsT s 24 q ∧ q.length ≤ 60 := by rcases hq with h | h <;> exact ⟨h.T, h.len⟩
  have hv24 : -24 ≤ v := by
    have : IsT s 24 [v] := by rcases hor with h | h <;> exact h.1.T
    exact this.vars v (by simp) hv
  have hok := h.ok.bind hv24 hv hqT.1 hqT.2 H
  have hsol : Sol m (sg (updM m v q)) := ((sol_upd hm _).1 (sg_sol hok)).1
  have hI : UInv s a b (updM m v q) L := by
    refine ⟨h.ta, h.la, hok, h.rest.1, fun σ hσ => ?_, fun i p hi => ?_⟩
    · rw [sol_upd hm]
      rcases hor with ⟨h1, h2⟩ | ⟨h1, h2⟩
      · rw [h.top h1 h2 σ hσ, subL_one, if_pos hv]
        constructor
        · rintro ⟨a, b, c⟩; exact ⟨⟨a, c⟩, b⟩
        · rintro ⟨⟨a, c⟩, b⟩; exact ⟨a, b, c⟩
      · rw [h.top h2 h1 σ hσ, subL_one, if_pos hv]
        constructor
        · rintro ⟨a, b, c⟩; exact ⟨⟨a, c.symm⟩, b⟩
        · rintro ⟨⟨a, c⟩, b⟩; exact ⟨a, b, c.symm⟩
    · obtain ⟨d, h1, h2⟩ := h.rest.2 i p hi
      refine ⟨d, h1, ?_⟩
      rw [fw_upd h.ok hok hsol, fw_upd h.ok hok hsol]
      exact h2.sub fun w h1 h2 => sg_T hok h1 h2
  refine ⟨hI, ?_⟩
  have h1 := ub_upd (q := q) hm hv24 hv
  have h2 := hI.wt_lt
  have h3 : (ub (updM m v q) + 1) * BIG ≤ ub m * BIG := Nat.mul_le_mul_right _ h1
  rw [Nat.add_mul, Nat.one_mul] at h3
  unfold meas
  omega
/-- two symbols: no unifier. -/
theorem UInv.clash {s : Sg} {a b : List Int} {m : MM} {L : List Pr} {x y p q : List Int} {c c' : Int} (h : UInv s a b m (L ++ [(x, y)])) (hp : Lk s m x (c :: p)) (hq : Lk s m y (c' :: q)) (h1 : 0 ≤ c) (h2 : 0 ≤ c') (hne : c ≠ c') : NoU s a b := by
  intro σ hσ e
  have := ((h.top hp hq σ hσ).1 e).2.2
  rw [subL_cons_app _ h1, subL_cons_app _ h2] at this
  exact hne (List.cons.inj this).1
theorem zip_all {α β : Type} {P : α → Prop} {Q : β → Prop} : ∀ {ars : List α} {bs : List β}, (∀ a ∈ ars, P a) → (∀ b ∈ bs, Q b) → ∀ r ∈ ars.zip bs, P r.1 ∧ Q r.2 := by
  intro ars bs h1 h2 r hr
  obtain ⟨a, b⟩ := r
  exact ⟨h1 a (List.of_mem_zip hr).1, h2 b (List.of_mem_zip hr).2⟩
theorem map_zip_eq {α β : Type} (f g : α → β) : ∀ (ars bs : List α), ars.length = bs.length → ((∀ r ∈ ars.zip bs, f r.1 = g r.2) ↔ ars.map f = bs.map g)
  | [], [], _ => by simp
  | a :: ars, b :: bs, h => by
    have := map_zip_eq f g ars bs (by simpa using h)
    simp only [List.zip_cons_cons, List.mem_cons, List.map_cons, List.cons.injEq]
    rw [← this]
    constructor
    · intro h; exact ⟨h (a, b) (Or.inl rfl), fun r hr => h r (Or.inr hr)⟩
    · rintro ⟨h1, h2⟩ r (rfl | hr)
      · exact h1
      · exact h2 r hr
theorem wt_zip {m : MM} : ∀ (ars bs : List (List Int)), ars.length = bs.length → wt m (ars.zip bs) = (fw m ars.flatten).length
  | [], [], _ => by rw [show (([] : List (List Int)).flatten) = [] from rfl]; unfold fw; rw [full_nil]; rfl
  | a :: ars, b :: bs, h => by
    have := wt_zip (m := m) ars bs (by simpa using h)
    rw [List.zip_cons_cons, List.flatten_cons, fw_append, List.length_append, ← this]
    simp [wt]
theorem flat_le {a : List Int} : ∀ {ars : List (List Int)}, a ∈ ars → a.length ≤ ars.flatten.length
  | [], h => by cases h
  | b :: bs, h => by
    rw [List.flatten_cons, List.length_append]
    rcases List.mem_cons.1 h with rfl | h
    · omega
    · have := flat_le h; omega
/-- two parts with one symbol: their arguments, two by two. -/
theorem UInv.args {s : Sg} (hsg : signB s = true) {a b : List Int} {m : MM} {L : List Pr} {x y : List Int} {c : Nat} {ars bs : List (List Int)} (h : UInv s a b m (L ++ [(x, y)])) (hp : Lk s m x ((c : Int) :: ars.flatten)) (hq : Lk s m y ((c : Int) :: bs.flatten))
    (ha : (ars.length : Int) = arOf s c) (hb : (bs.length : Int) = arOf s c) (h1 : ∀ a ∈ ars, IsT s 24 a) (h2 : ∀ b ∈ bs, IsT s 24 b) : UInv s a b m (L ++ ars.zip bs) ∧ meas m (L ++ ars.zip bs) < meas m (L ++ [(x, y)]) := by
  have hl : ars.length = bs.length := by omega
  refine ⟨⟨h.ta, h.la, h.ok, fun p hp' => ?_, fun σ hσ => ?_, fun i p hi => ?_⟩, ?_⟩
  · rcases List.mem_append.1 hp' with hp' | hp'
    · exact h.rest.1 p hp'
    · have g := zip_all h1 h2 p hp'
      have g2 := zip_all (P := fun u : List Int => u.length ≤ ars.flatten.length) (Q := fun u : List Int => u.length ≤ bs.flatten.length) (fun _ h => flat_le h) (fun _ h => flat_le h) p hp'
      have g3 := hp.len
      have g4 := hq.len
      simp at g3 g4
      simp at g2
      exact ⟨g.1, g.2, by omega, by omega⟩
  · rw [h.top hp hq σ hσ, subL_node, subL_node]
    obtain ⟨w, hw⟩ := hσ
    have e : (((c : Int) :: (ars.map (subL σ)).flatten) = ((c : Int) :: (bs.map (subL σ)).flatten)) ↔ ∀ r ∈ ars.zip bs, subL σ r.1 = subL σ r.2 := by
      rw [map_zip_eq _ _ _ _ hl]
      constructor
      · intro e
        refine app_unique (s := s) (m := w) (fun z hz => ?_) (fun z hz => ?_) (by simpa using hl) e
        · obtain ⟨u, hu, rfl⟩ := List.mem_map.1 hz
          exact subL_T hw (h1 u hu)
        · obtain ⟨u, hu, rfl⟩ := List.mem_map.1 hz
          exact subL_T hw (h2 u hu)
      · intro e; rw [e]
    rw [e]
    constructor
    · rintro ⟨u, v, w⟩
      refine ⟨u, fun r hr => ?_⟩
      rcases List.mem_append.1 hr with hr | hr
      · exact v r hr
      · exact w r hr
    · rintro ⟨u, v⟩
      exact ⟨u, fun r hr => v r (by simp [hr]), fun r hr => v r (by simp [hr])⟩
  · by_cases hiL : i < L.length
    · rw [List.getElem?_append_left hiL] at hi
      exact h.rest.2 i p hi
    · rw [List.getElem?_append_right (by omega)] at hi
      obtain ⟨d, g1, g2⟩ := h.dep L.length (x, y) (by simp)
      have hlt : i - L.length < ars.length := by
        have := (List.getElem?_eq_some_iff.1 hi).1
        simp at this; omega
      have har := signB_ar' hsg c
      refine ⟨d + 1, by omega, ?_⟩
      have hmem : p.1 ∈ ars := (List.of_mem_zip (by exact List.mem_of_getElem? hi : (p.1, p.2) ∈ ars.zip bs)).1
      have e : fw m x = (c : Int) :: (ars.map (subL (sg m))).flatten := by rw [← hp.fwe, fw_sub h.ok, subL_node]
      rw [fw_sub h.ok p.1]
      refine Dp.arg g2 e (by simpa using ha) (fun z hz => ?_) (List.mem_map.2 ⟨p.1, hmem, rfl⟩)
      obtain ⟨u, hu, rfl⟩ := List.mem_map.1 hz
      exact subL_T (fun v h1 h2 => sg_T h.ok h1 h2) (h1 u hu)
  · unfold meas
    rw [wt_append, wt_append, wt_one, wt_zip ars bs hl]
    have e : fw m x = (c : Int) :: fw m ars.flatten := by rw [← hp.fwe, fw_app _ (by omega)]
    show _ < _ + (_ + (fw m x).length)
    rw [e, List.length_cons]
    omega

/-! ### what most general binds are good for -/
theorem Mgu.sol {s : Sg} {a b : List Int} {m : MM} (h : Mgu s a b m) : subL (sg m) a = subL (sg m) b := (h.2 _ (sg_TS h.1)).2 (sg_sol h.1)
theorem Mgu.not_no {s : Sg} {a b : List Int} {m : MM} (h : Mgu s a b m) (k : NoU s a b) : False := k _ (sg_TS h.1) h.sol
theorem Mgu.gen {s : Sg} {a b : List Int} {m : MM} (h : Mgu s a b m) {σ : Int → List Int} (hσ : TS s σ) (e : subL σ a = subL σ b) (t : List Int) : subL σ (fw m t) = subL σ t := sol_fw ((h.2 σ hσ).1 e) t
end Go.Proofs.YtalodmochkodiaaGreat
namespace Go.Proofs.YtalodmochkodiaaGreat
/-- a way: the symbol that one becomes, and where its arguments come from. -/
abbrev Wy := Int × List Int
abbrev Dic := List Wy
def ascL (n : Nat) : List Int := (List.range n).map (fun (i : Nat) => (i : Int))
theorem ascL_len (n : Nat) : (ascL n).length = n := by simp [ascL]
theorem ascL_mem {n : Nat} {x : Int} : x ∈ ascL n ↔ 0 ≤ x ∧ x < n := by
  unfold ascL
  rw [List.mem_map]
  constructor
  · rintro ⟨i, hi, rfl⟩
    have := List.mem_range.1 hi
    omega
  · rintro ⟨h1, h2⟩
    exact ⟨x.toNat, List.mem_range.2 (by omega), by omega⟩
theorem ascL_nodup (n : Nat) : (ascL n).Nodup := by
  unfold ascL
  rw [List.nodup_iff_pairwise_ne, List.pairwise_map]
  refine List.Pairwise.imp ?_ List.pairwise_lt_range
  intro a b h; omega
/-- numbers are an order of the numbers below their number. -/
def ordB (l : List Int) : Bool := l.isPerm (ascL l.length)
theorem ordB_iff {l : List Int} : ordB l = true ↔ l.Perm (ascL l.length) := by unfold ordB; exact List.isPerm_iff
theorem ordB_mem {l : List Int} (h : ordB l = true) {x : Int} : x ∈ l ↔ 0 ≤ x ∧ x < l.length := by
  rw [(ordB_iff.1 h).mem_iff, ascL_mem]
theorem ordB_nodup {l : List Int} (h : ordB l = true) : l.Nodup := (ordB_iff.1 h).nodup_iff.2 (ascL_nodup _)
def wayB (a b : Sg) (d : Dic) (i : Nat) : Bool :=
  match d[i]? with
  | some w => inB w.1 0 (b.length - 1) && decide (arOf b w.1 = arOf a i) && decide ((w.2.length : Int) = arOf a i) && ordB w.2
  | none => false
/-- a valid dictionary. -/
def dicB (a b : Sg) (d : Dic) : Bool :=
  signB a && signB b && decide (d.length = a.length) && (match d[0]? with | some w => decide (w.1 = 0) && decide (w.2 = [0, 1]) | none => false) && (List.range d.length).all (wayB a b d)
def oneB (a b : Sg) (d : Dic) : Bool := dicB a b d && (decide (a.length = b.length) && decide (d.map (·.1)).Nodup)
structure DicOK (a b : Sg) (d : Dic) : Prop where
  sa : signB a = true
  sb : signB b = true
  len : d.length = a.length
  way : ∀ i (h : i < d.length), (0 ≤ d[i].1 ∧ d[i].1 < b.length) ∧ arOf b d[i].1 = arOf a i ∧ (d[i].2.length : Int) = arOf a i ∧ ordB d[i].2 = true
theorem dicB_ok {a b : Sg} {d : Dic} (h : dicB a b d = true) : DicOK a b d := by
  unfold dicB at h
  simp only [Bool.and_eq_true, decide_eq_true_eq, List.all_eq_true, List.mem_range] at h
  obtain ⟨⟨⟨⟨h1, h2⟩, h3⟩, -⟩, h5⟩ := h
  refine ⟨h1, h2, h3, fun i hi => ?_⟩
  have := h5 i hi
  unfold wayB at this
  rw [List.getElem?_eq_getElem hi] at this
  simp only [Bool.and_eq_true, decide_eq_true_eq] at this
  obtain ⟨⟨⟨w1, w2⟩, w3⟩, w4⟩ := this
  have := inB_true.1 w1
  exact ⟨by omega, w2, w3, w4⟩
/-- the first terms of a list. -/
def cutL (s : Sg) : Nat → List Int → List (List Int)
  | 0, _ => []
  | k + 1, l => l.take (pLen s l 1) :: cutL s k (l.drop (pLen s l 1))
theorem cutL_flat {s : Sg} {m : Int} : ∀ (ars : List (List Int)) (r : List Int), (∀ a ∈ ars, IsT s m a) → cutL s ars.length (ars.flatten ++ r) = ars := by
  intro ars
  induction ars with
  | nil => intro r _; rfl
  | cons a ars ih =>
    intro r h
    have e : pLen s ((a :: ars).flatten ++ r) 1 = a.length := by
      rw [List.flatten_cons, List.append_assoc]
      exact pLen_T1 (h a (by simp)) _
    simp only [List.length_cons, cutL]
    rw [e, List.flatten_cons, List.append_assoc, List.take_left, List.drop_left, ih r fun x hx => h x (by simp [hx])]
def putW (w : Wy) (zs : List (List Int)) : List Int := w.1 :: (w.2.map fun k => zs.getD k.toNat []).flatten
def carF (s : Sg) (d : Dic) : Nat → List Int → List Int
  | 0, _ => []
  | _ + 1, [] => []
  | f + 1, n :: r => if n < 0 then [n] else putW (d.getD n.toNat (0, [])) ((cutL s (arOf s n).toNat r).map (carF s d f))
/-- what a dictionary makes of a term. -/
def carL (s : Sg) (d : Dic) (t : List Int) : List Int := carF s d t.length t
theorem flat_mem_le {a : List Int} : ∀ {ars : List (List Int)}, a ∈ ars → a.length ≤ ars.flatten.length := by
  intro ars
  induction ars with
  | nil => intro h; simp at h
  | cons b ars ih =>
    intro h
    rcases List.mem_cons.1 h with rfl | h
    · simp
    · have := ih h; simp; simp at this; omega
theorem carF_fuel {s : Sg} {d : Dic} {m : Int} {t : List Int} (h : IsT s m t) : ∀ f, t.length ≤ f → carF s d f t = carL s d t := by
  have key : ∀ f g, t.length ≤ f → t.length ≤ g → carF s d f t = carF s d g t := by
    induction h with
    | var n h1 h2 =>
      intro f g hf hg
      simp at hf hg
      obtain ⟨f, rfl⟩ : ∃ k, f = k + 1 := ⟨f - 1, by omega⟩
      obtain ⟨g, rfl⟩ : ∃ k, g = k + 1 := ⟨g - 1, by omega⟩
      simp [carF, h2]
    | app c ars h1 h2 h3 ih =>
      intro f g hf hg
      simp only [List.length_cons] at hf hg
      obtain ⟨f, rfl⟩ : ∃ k, f = k + 1 := ⟨f - 1, by omega⟩
      obtain ⟨g, rfl⟩ : ∃ k, g = k + 1 := ⟨g - 1, by omega⟩
      have e : cutL s (arOf s (c : Int)).toNat ars.flatten = ars := by
        have := cutL_flat ars [] h3
        rw [List.append_nil] at this
        rw [← h2]; exact this
      simp only [carF]
      rw [if_neg (by omega), if_neg (by omega), e]
      congr 1
      refine List.map_congr_left fun x hx => ih x hx f g ?_ ?_
      · have := flat_mem_le hx; omega
      · have := flat_mem_le hx; omega
  exact fun f hf => key f t.length hf (Nat.le_refl _)
theorem carL_var (s : Sg) (d : Dic) {n : Int} (h : n < 0) : carL s d [n] = [n] := by simp [carL, carF, h]
theorem carL_app {s : Sg} {d : Dic} {m : Int} {c : Nat} {ars : List (List Int)} (h2 : (ars.length : Int) = arOf s c) (h3 : ∀ a ∈ ars, IsT s m a) :
    carL s d ((c : Int) :: ars.flatten) = putW (d.getD c (0, [])) (ars.map (carL s d)) := by
  have e : cutL s (arOf s (c : Int)).toNat ars.flatten = ars := by
    have := cutL_flat ars [] h3
    rw [List.append_nil] at this
    rw [← h2]; exact this
  unfold carL
  simp only [List.length_cons, carF]
  rw [if_neg (by omega), e, Int.toNat_natCast]
  congr 1
  refine List.map_congr_left fun x hx => carF_fuel (h3 x hx) _ (flat_mem_le hx)
/-- what is put in order has what was there. -/
theorem pick_perm {l : List Int} (h : ordB l = true) {α : Type} (zs : List α) (e : α) (hl : zs.length = l.length) : (l.map fun k => zs.getD k.toNat e).Perm zs := by
  have h1 : (l.map fun k => zs.getD k.toNat e).Perm ((ascL l.length).map fun k => zs.getD k.toNat e) := (ordB_iff.1 h).map _
  have h2 : (ascL l.length).map (fun k => zs.getD k.toNat e) = zs := by
    unfold ascL
    rw [List.map_map]
    refine List.ext_getElem (by simp [hl]) fun i g1 g2 => ?_
    simp [List.getD_eq_getElem?_getD, List.getElem?_eq_getElem g2]
  rw [h2] at h1
  exact h1
theorem DicOK.at {a b : Sg} {d : Dic} (h : DicOK a b d) {c : Nat} (hc : c < a.length) : ∃ (to : Nat) (l : List Int), d.getD c (0, []) = ((to : Int), l) ∧ to < b.length ∧ arOf b to = arOf a c ∧ (l.length : Int) = arOf a c ∧ ordB l = true ∧ d[c]? = some ((to : Int), l) := by
  have hc' : c < d.length := by rw [h.len]; exact hc
  obtain ⟨⟨w1, w2⟩, w3, w4, w5⟩ := h.way c hc'
  obtain ⟨to, hto⟩ : ∃ to : Nat, d[c].1 = to := ⟨d[c].1.toNat, by omega⟩
  refine ⟨to, d[c].2, ?_, by omega, by rw [← hto]; exact w3, w4, w5, ?_⟩
  · rw [List.getD_eq_getElem?_getD, List.getElem?_eq_getElem hc', ← hto]; rfl
  · rw [List.getElem?_eq_getElem hc', ← hto]
theorem perm_flatten {α : Type} {l l' : List (List α)} (h : l.Perm l') : l.flatten.Perm l'.flatten := by
  induction h with
  | nil => exact List.Perm.refl _
  | cons x _ ih => simpa using ih.append_left x
  | swap x y l => simpa using (List.perm_append_comm_assoc y x l.flatten)
  | trans _ _ h1 h2 => exact h1.trans h2
theorem perm_flatten_map {α β : Type} (f g : α → List β) : ∀ (l : List α), (∀ a ∈ l, (f a).Perm (g a)) → (l.map f).flatten.Perm (l.map g).flatten := by
  intro l
  induction l with
  | nil => intro _; exact List.Perm.refl _
  | cons x l ih => intro h; simpa using (h x (by simp)).append (ih fun a ha => h a (by simp [ha]))
theorem carL_T {a b : Sg} {d : Dic} (hd : DicOK a b d) {m : Int} {t : List Int} (h : IsT a m t) : IsT b m (carL a d t) := by
  induction h with
  | var n h1 h2 => rw [carL_var _ _ h2]; exact .var n h1 h2
  | app c ars h1 h2 h3 ih =>
    rw [carL_app h2 h3]
    obtain ⟨to, l, e, w1, w2, w3, w4, -⟩ := hd.at h1
    rw [e]
    unfold putW
    refine .app to _ w1 (by simp; omega) fun z hz => ?_
    have hp := pick_perm w4 (ars.map (carL a d)) [] (by simp; omega)
    have hz' := hp.mem_iff.1 hz
    obtain ⟨x, hx, rfl⟩ := List.mem_map.1 hz'
    exact ih x hx
theorem carL_len {a b : Sg} {d : Dic} (hd : DicOK a b d) {m : Int} {t : List Int} (h : IsT a m t) : (carL a d t).length = t.length := by
  induction h with
  | var n h1 h2 => rw [carL_var _ _ h2]
  | app c ars h1 h2 h3 ih =>
    rw [carL_app h2 h3]
    obtain ⟨to, l, e, w1, w2, w3, w4, -⟩ := hd.at h1
    rw [e]
    unfold putW
    have hp := perm_flatten (pick_perm w4 (ars.map (carL a d)) [] (by simp; omega))
    simp only [List.length_cons, hp.length_eq, List.length_flatten, List.map_map]
    congr 2
    refine List.map_congr_left fun x hx => ?_
    exact ih x hx
theorem carL_vars {a b : Sg} {d : Dic} (hd : DicOK a b d) {m : Int} {t : List Int} (h : IsT a m t) : ((carL a d t).filter (fun n => decide (n < 0))).Perm (t.filter (fun n => decide (n < 0))) := by
  induction h with
  | var n h1 h2 => rw [carL_var _ _ h2]
  | app c ars h1 h2 h3 ih =>
    rw [carL_app h2 h3]
    obtain ⟨to, l, e, w1, w2, w3, w4, -⟩ := hd.at h1
    rw [e]
    unfold putW
    have hp := perm_flatten (pick_perm w4 (ars.map (carL a d)) [] (by simp; omega))
    rw [List.filter_cons_of_neg (by simp), List.filter_cons_of_neg (by simp)]
    refine (hp.filter _).trans ?_
    rw [List.filter_flatten, List.filter_flatten, List.map_map]
    exact perm_flatten_map _ _ ars ih
theorem carL_neg {a b : Sg} {d : Dic} (hd : DicOK a b d) {m : Int} {t : List Int} (h : IsT a m t) {n : Int} (hn : n < 0) : n ∈ carL a d t ↔ n ∈ t := by
  have := (carL_vars hd h).mem_iff (a := n)
  simpa [List.mem_filter, hn] using this
theorem carL_sub {a b : Sg} {d : Dic} (hd : DicOK a b d) {σ : Int → List Int} {q m : Int} {t : List Int} (h : IsT a m t) (hσ : ∀ n ∈ t, n < 0 → IsT a q (σ n)) :
    carL a d (subL σ t) = subL (fun n => carL a d (σ n)) (carL a d t) := by
  induction h with
  | var n h1 h2 => rw [carL_var _ _ h2, subL_one, if_pos h2, subL_one, if_pos h2]
  | app c ars h1 h2 h3 ih =>
    have hs : ∀ x ∈ ars, ∀ n ∈ x, n < 0 → IsT a q (σ n) := fun x hx n hn h0 => hσ n (by simp; exact Or.inr ⟨x, hx, hn⟩) h0
    have h3' : ∀ z ∈ ars.map (subL σ), IsT a q z := by
      intro z hz
      obtain ⟨x, hx, rfl⟩ := List.mem_map.1 hz
      exact (h3 x hx).sub (hs x hx)
    rw [subL_node, carL_app (by simpa using h2) h3', carL_app h2 h3]
    obtain ⟨to, l, e, w1, w2, w3, w4, -⟩ := hd.at h1
    rw [e]
    unfold putW
    rw [subL_cons_app _ (by omega), subL_flatten, List.map_map, List.map_map]
    congr 2
    refine List.map_congr_left fun k hk => ?_
    have hk' := (ordB_mem w4).1 hk
    have hkl : k.toNat < ars.length := by omega
    simp only [Function.comp, List.getD_eq_getElem?_getD, List.getElem?_map, List.getElem?_eq_getElem hkl, Option.map_some, Option.getD_some]
    exact ih _ (List.getElem_mem hkl) (hs _ (List.getElem_mem hkl))
structure OneOK (a b : Sg) (d : Dic) : Prop extends DicOK a b d where
  same : a.length = b.length
  nd : (d.map (·.1)).Nodup
theorem oneB_ok {a b : Sg} {d : Dic} (h : oneB a b d = true) : OneOK a b d := by
  unfold oneB at h
  simp only [Bool.and_eq_true, decide_eq_true_eq] at h
  exact ⟨dicB_ok h.1, h.2.1, h.2.2⟩
theorem to_inj {a b : Sg} {d : Dic} (h : OneOK a b d) {i j : Nat} {x : Int} {l l' : List Int} (hi : d[i]? = some (x, l)) (hj : d[j]? = some (x, l')) : i = j := by
  have hi' := (List.getElem?_eq_some_iff.1 hi).1
  have hj' := (List.getElem?_eq_some_iff.1 hj).1
  have e1 : (d.map (·.1))[i]'(by simpa using hi') = x := by simp [(List.getElem?_eq_some_iff.1 hi).2]
  have e2 : (d.map (·.1))[j]'(by simpa using hj') = x := by simp [(List.getElem?_eq_some_iff.1 hj).2]
  exact (List.getElem_inj h.nd).1 (e1.trans e2.symm)
theorem pick_inj {l : List Int} (h : ordB l = true) {zs ys : List (List Int)} (h1 : zs.length = l.length) (h2 : ys.length = l.length) (e : (l.map fun k => zs.getD k.toNat []) = l.map fun k => ys.getD k.toNat []) : zs = ys := by
  refine List.ext_getElem (by omega) fun i g1 g2 => ?_
  have hm : (i : Int) ∈ l := (ordB_mem h).2 (by omega)
  have := (List.map_inj_left.1 e) _ hm
  simpa [List.getD_eq_getElem?_getD, List.getElem?_eq_getElem g1, List.getElem?_eq_getElem g2] using this
theorem map_eq_of {α β : Type} {f : α → β} : ∀ {ars bs : List α}, (∀ x ∈ ars, ∀ y ∈ bs, f x = f y → x = y) → ars.map f = bs.map f → ars = bs
  | [], [], _, _ => rfl
  | [], _ :: _, _, e => by simp at e
  | _ :: _, [], _, e => by simp at e
  | x :: ars, y :: bs, h, e => by
    simp only [List.map_cons, List.cons.injEq] at e
    rw [h x (by simp) y (by simp) e.1, map_eq_of (fun x hx y hy => h x (by simp [hx]) y (by simp [hy])) e.2]
theorem carL_inj {a b : Sg} {d : Dic} (hd : OneOK a b d) {m : Int} {t : List Int} (h : IsT a m t) : ∀ {u : List Int}, IsT a m u → carL a d t = carL a d u → t = u := by
  induction h with
  | var n h1 h2 =>
    intro u hu e
    rw [carL_var _ _ h2] at e
    cases hu with
    | var k k1 k2 => rw [carL_var _ _ k2] at e; exact e
    | app c ars k1 k2 k3 =>
      rw [carL_app k2 k3] at e
      obtain ⟨to, l, e', -⟩ := hd.toDicOK.at k1
      rw [e'] at e
      unfold putW at e
      have := (List.cons.inj e).1
      omega
  | app c ars h1 h2 h3 ih =>
    intro u hu e
    rw [carL_app h2 h3] at e
    obtain ⟨to, l, e', w1, w2, w3, w4, w5⟩ := hd.toDicOK.at h1
    rw [e'] at e
    cases hu with
    | var k k1 k2 =>
      rw [carL_var _ _ k2] at e
      unfold putW at e
      have := (List.cons.inj e).1
      omega
    | app c' bs k1 k2 k3 =>
      rw [carL_app k2 k3] at e
      obtain ⟨to', l', e'', v1, v2, v3, v4, v5⟩ := hd.toDicOK.at k1
      rw [e''] at e
      unfold putW at e
      simp only [List.cons.injEq] at e
      obtain ⟨e1, e2⟩ := e
      rw [e1] at w5
      have hc := to_inj hd w5 v5
      subst hc
      rw [w5] at v5
      have hl : l = l' := congrArg Prod.snd (Option.some.inj v5)
      subst hl
      have T1 : ∀ z ∈ (l.map fun k => (ars.map (carL a d)).getD k.toNat []), IsT b m z := by
        intro z hz
        have := (pick_perm w4 (ars.map (carL a d)) [] (by simp; omega)).mem_iff.1 hz
        obtain ⟨x, hx, rfl⟩ := List.mem_map.1 this
        exact carL_T hd.toDicOK (h3 x hx)
      have T2 : ∀ z ∈ (l.map fun k => (bs.map (carL a d)).getD k.toNat []), IsT b m z := by
        intro z hz
        have := (pick_perm w4 (bs.map (carL a d)) [] (by simp; omega)).mem_iff.1 hz
        obtain ⟨x, hx, rfl⟩ := List.mem_map.1 this
        exact carL_T hd.toDicOK (k3 x hx)
      have := cut_unique _ _ [] [] T1 T2 (by simp) (by simpa using e2)
      have hz := pick_inj w4 (by simp; omega) (by simp; omega) this.1
      have hab : ars = bs := map_eq_of (fun x hx y hy hxy => ih x hx (k3 y hy) hxy) hz
      rw [hab]
theorem nodup_full : ∀ (n : Nat) (l : List Int), l.Nodup → (∀ x ∈ l, 0 ≤ x ∧ x < n) → l.length = n → ∀ x : Int, 0 ≤ x → x < n → x ∈ l := by
  intro n
  induction n with
  | zero => intro l _ _ _ x h1 h2; omega
  | succ n ih =>
    intro l hn hb hl x h1 h2
    by_cases hm : (n : Int) ∈ l
    · by_cases hx : x = n
      · rw [hx]; exact hm
      · have := ih (l.erase n) (hn.erase _) (fun y hy => by
          have h := (List.Nodup.mem_erase_iff hn).1 hy
          have := hb y h.2
          have h3 := h.1
          omega) (by rw [List.length_erase_of_mem hm]; omega) x h1 (by omega)
        exact List.mem_of_mem_erase this
    · exfalso
      have h' : ∀ y ∈ l, 0 ≤ y ∧ y < n := fun y hy => by
        have := hb y hy
        have : y ≠ n := fun e => hm (e ▸ hy)
        omega
      cases l with
      | nil => simp at hl
      | cons z l =>
        have hz := h' z (by simp)
        have hnd := List.nodup_cons.1 hn
        exact hnd.1 (ih l hnd.2 (fun y hy => h' y (by simp [hy])) (by simpa using hl) z hz.1 hz.2)
theorem to_onto {a b : Sg} {d : Dic} (h : OneOK a b d) {j : Nat} (hj : j < b.length) : ∃ (i : Nat) (l : List Int), i < a.length ∧ d[i]? = some ((j : Int), l) := by
  have hm := nodup_full b.length (d.map (·.1)) h.nd (by
    intro x hx
    obtain ⟨w, hw, rfl⟩ := List.mem_map.1 hx
    obtain ⟨i, hi, rfl⟩ := List.getElem_of_mem hw
    exact (h.way i hi).1) (by simp [h.len, h.same]) j (by omega) (by omega)
  obtain ⟨w, hw, he⟩ := List.mem_map.1 hm
  obtain ⟨i, hi, rfl⟩ := List.getElem_of_mem hw
  refine ⟨i, d[i].2, by rw [← h.len]; exact hi, ?_⟩
  rw [List.getElem?_eq_getElem hi, ← he]
/-- each term of the other sign comes from one. -/
theorem carL_onto {a b : Sg} {d : Dic} (hd : OneOK a b d) {m : Int} {u : List Int} (h : IsT b m u) : ∃ t, IsT a m t ∧ carL a d t = u := by
  induction h with
  | var n h1 h2 => exact ⟨[n], .var n h1 h2, carL_var _ _ h2⟩
  | app j us h1 h2 h3 ih =>
    obtain ⟨i, l, hi, hdi⟩ := to_onto hd h1
    obtain ⟨to, l', e, w1, w2, w3, w4, w5⟩ := hd.toDicOK.at hi
    rw [hdi] at w5
    have e1 : (j : Int) = to := congrArg Prod.fst (Option.some.inj w5)
    have e2 : l = l' := congrArg Prod.snd (Option.some.inj w5)
    have e1' : j = to := by omega
    subst e2; subst e1'
    have hlu : us.length = l.length := by omega
    let f : Nat → List Int := fun p => if hp : p < us.length then Classical.choose (ih us[p] (List.getElem_mem hp)) else []
    have hf : ∀ p (hp : p < us.length), IsT a m (f p) ∧ carL a d (f p) = us[p] := by
      intro p hp
      have := Classical.choose_spec (ih us[p] (List.getElem_mem hp))
      simp only [f, hp, dif_pos]
      exact this
    let ars : List (List Int) := (List.range l.length).map fun (q : Nat) => f (l.idxOf (q : Int))
    have hmem : ∀ q, q < l.length → l.idxOf (q : Int) < l.length := fun q hq => List.idxOf_lt_length_of_mem ((ordB_mem w4).2 ⟨by omega, by omega⟩)
    have has : ∀ x ∈ ars, IsT a m x := by
      intro x hx
      obtain ⟨q, hq, rfl⟩ := List.mem_map.1 hx
      exact (hf _ (by have := hmem q (List.mem_range.1 hq); omega)).1
    have hal : (ars.length : Int) = arOf a i := by simp [ars]; exact w3
    refine ⟨(i : Int) :: ars.flatten, .app i ars hi hal has, ?_⟩
    rw [carL_app hal has, e]
    unfold putW
    show (j : Int) :: _ = (j : Int) :: us.flatten
    congr 2
    refine List.ext_getElem (by simp [hlu]) fun p g1 g2 => ?_
    have hp : p < l.length := by simpa using g1
    have hx := (ordB_mem w4).1 (List.getElem_mem hp)
    have hq : (l[p]).toNat < l.length := by omega
    rw [List.getElem_map, List.getD_eq_getElem?_getD, List.getElem?_map, List.getElem?_eq_getElem (by simpa [ars] using hq)]
    simp only [Option.map_some, Option.getD_some, ars, List.getElem_map, List.getElem_range]
    have e3 : ((l[p].toNat : Nat) : Int) = l[p] := by omega
    rw [e3, List.Nodup.idxOf_getElem (ordB_nodup w4) p hp]
    exact (hf p (by omega)).2
theorem carL_TS {a b : Sg} {d : Dic} (hd : DicOK a b d) {σ : Int → List Int} (h : TS a σ) : TS b (fun n => carL a d (σ n)) := by
  obtain ⟨q, hq⟩ := h
  exact ⟨q, fun v h1 h2 => carL_T hd (hq v h1 h2)⟩
theorem TS_lift {a b : Sg} {d : Dic} (hd : OneOK a b d) {τ : Int → List Int} (h : TS b τ) : ∃ σ, TS a σ ∧ ∀ v, -24 ≤ v → v < 0 → carL a d (σ v) = τ v := by
  obtain ⟨q, hq⟩ := h
  refine ⟨fun v => if hv : -24 ≤ v ∧ v < 0 then Classical.choose (carL_onto hd (hq v hv.1 hv.2)) else [], ⟨q, fun v h1 h2 => ?_⟩, fun v h1 h2 => ?_⟩
  · simp only [h1, h2, and_self, dif_pos]
    exact (Classical.choose_spec (carL_onto hd (hq v h1 h2))).1
  · simp only [h1, h2, and_self, dif_pos]
    exact (Classical.choose_spec (carL_onto hd (hq v h1 h2))).2
theorem subL_TS {s : Sg} {σ τ : Int → List Int} {t : List Int} (h : IsT s 24 t) (e : ∀ v, -24 ≤ v → v < 0 → σ v = τ v) : subL σ t = subL τ t := subL_congr fun n hn h0 => e n (h.vars n hn h0) h0
theorem carL_sub24 {a b : Sg} {d : Dic} (hd : DicOK a b d) {σ : Int → List Int} (hσ : TS a σ) {t : List Int} (h : IsT a 24 t) : carL a d (subL σ t) = subL (fun n => carL a d (σ n)) (carL a d t) := by
  obtain ⟨q, hq⟩ := hσ
  exact carL_sub hd h fun n hn h0 => hq n (h.vars n hn h0) h0
theorem car_unif {a b : Sg} {d : Dic} (hd : OneOK a b d) {x y : List Int} (hx : IsT a 24 x) (hy : IsT a 24 y) {σ : Int → List Int} (hσ : TS a σ) :
    subL (fun n => carL a d (σ n)) (carL a d x) = subL (fun n => carL a d (σ n)) (carL a d y) ↔ subL σ x = subL σ y := by
  rw [← carL_sub24 hd.toDicOK hσ hx, ← carL_sub24 hd.toDicOK hσ hy]
  constructor
  · intro e
    obtain ⟨q, hq⟩ := hσ
    exact carL_inj hd (m := q) (hx.sub fun n hn h0 => hq n (hx.vars n hn h0) h0) (hy.sub fun n hn h0 => hq n (hy.vars n hn h0) h0) e
  · intro e; rw [e]
theorem car_inst {a b : Sg} {d : Dic} (hd : OneOK a b d) {q : Int} {x y : List Int} (hx : IsT a q x) (hy : IsT a q y) : Inst b q (carL a d x) (carL a d y) ↔ Inst a q x y := by
  constructor
  · rintro ⟨τ, hτ, e⟩
    have hτ' : ∀ n ∈ x, n < 0 → IsT b q (τ n) := fun n hn h0 => hτ n ((carL_neg hd.toDicOK hx h0).2 hn) h0
    let σ : Int → List Int := fun n => if hn : n ∈ x ∧ n < 0 then Classical.choose (carL_onto hd (hτ' n hn.1 hn.2)) else []
    have h1 : ∀ n ∈ x, n < 0 → IsT a q (σ n) ∧ carL a d (σ n) = τ n := by
      intro n hn h0
      have := Classical.choose_spec (carL_onto hd (hτ' n hn h0))
      simp only [σ, hn, h0, and_self, dif_pos]
      exact this
    refine ⟨σ, fun n hn h0 => (h1 n hn h0).1, ?_⟩
    refine carL_inj hd (hx.sub fun n hn h0 => (h1 n hn h0).1) hy ?_
    rw [carL_sub hd.toDicOK hx fun n hn h0 => (h1 n hn h0).1, ← e]
    exact subL_congr fun n hn h0 => (h1 n ((carL_neg hd.toDicOK hx h0).1 hn) h0).2
  · rintro ⟨σ, hσ, e⟩
    refine ⟨fun n => carL a d (σ n), fun n hn h0 => carL_T hd.toDicOK (hσ n ((carL_neg hd.toDicOK hx h0).1 hn) h0), ?_⟩
    rw [← carL_sub hd.toDicOK hx hσ, e]
/-- canonical forms of carried terms. -/
theorem car_canon {a b : Sg} {d : Dic} (hd : DicOK a b d) {m : Int} {t : List Int} (ht : IsT a m t) : canonL (carL a d (canonL t)) = canonL (carL a d t) := by
  have e : canonL t = subL (fun n => [numV (varsF [] t) n]) t := by
    unfold canonL subL
    rw [← List.flatMap_singleton' (List.map _ t), List.flatMap_map]
    congr 1
    funext n
    by_cases h : n < 0
    · rw [if_pos h]
    · rw [if_neg h]; unfold numV; rw [if_neg h]
  have hneg : ∀ n, n < 0 → numV (varsF [] t) n < 0 := fun n h => numV_neg.2 h
  rw [e, carL_sub (q := (varsF [] t).length + 1) hd ht ?_]
  · have e2 : subL (fun n => carL a d [numV (varsF [] t) n]) (carL a d t) = (carL a d t).map (fun n => if n < 0 then numV (varsF [] t) n else n) := by
      unfold subL
      rw [← List.flatMap_singleton' (List.map _ (carL a d t)), List.flatMap_map]
      congr 1
      funext n
      by_cases h : n < 0
      · rw [if_pos h, if_pos h]; exact carL_var _ _ (hneg n h)
      · rw [if_neg h, if_neg h]
    rw [e2]
    refine canonL_map (fun n _ h => by rw [if_pos h]; exact hneg n h) (fun n _ h => by rw [if_neg (by omega)]) (fun n hn k hk h1 h2 hh => ?_)
    rw [if_pos h1, if_pos h2] at hh
    exact numV_inj h1 h2 ((varsF_mem t [] n).2 (Or.inr ⟨(carL_neg hd ht h1).1 hn, h1⟩)) hh
  · intro n hn h0
    refine .var _ ?_ (hneg n h0)
    unfold numV
    rw [if_pos h0]
    have := List.idxOf_le_length (a := n) (l := varsF [] t)
    omega
end Go.Proofs.YtalodmochkodiaaGreat
namespace Go.Proofs.YtalodmochkodiaaGreat
open Go Go.RowKit Go.Maps
end Go.Proofs.YtalodmochkodiaaGreat
namespace Go.Proofs.YtalodmochkodiaaGreat

end Go.Proofs.YtalodmochkodiaaGreat
namespace Go.Proofs.YtalodmochkodiaaGreat
/-- c is told of a and b, part by part; N says which pair of parts has which name. -/
inductive JR (s : Sg) (N : List Int → List Int → Int → Prop) : List Int → List Int → List Int → Prop
  | nil : JR s N [] [] []
  | same (x : Int) (a b c : List Int) : 0 ≤ x → JR s N a b c → JR s N (x :: a) (x :: b) (x :: c)
  | diff (p q a b c : List Int) (n : Int) : IsT s 12 p → IsT s 12 q → ¬ (∃ x, 0 ≤ x ∧ p.head? = some x ∧ q.head? = some x) → N p q n → JR s N a b c → JR s N (p ++ a) (q ++ b) (n :: c)
theorem cut1 {s : Sg} {m : Int} {p p' a a' : List Int} (h : IsT s m p) (h' : IsT s m p') (e : p ++ a = p' ++ a') : p = p' ∧ a = a' := by
  have := cut_unique (s := s) (m := m) [p] [p'] a a' (by simpa using h) (by simpa using h') rfl (by simpa using e)
  exact ⟨by simpa using this.1, this.2⟩
theorem JR.cons_inv {s : Sg} {N : List Int → List Int → Int → Prop} {x : Int} {a b c : List Int} (h : JR s N (x :: a) b c) :
    (∃ b' c', b = x :: b' ∧ c = x :: c' ∧ 0 ≤ x ∧ JR s N a b' c') ∨ (∃ p q a' b' c' n, x :: a = p ++ a' ∧ b = q ++ b' ∧ c = n :: c' ∧ IsT s 12 p ∧ IsT s 12 q ∧ ¬ (∃ x, 0 ≤ x ∧ p.head? = some x ∧ q.head? = some x) ∧ N p q n ∧ JR s N a' b' c') := by
  generalize ha : x :: a = y at h
  cases h with
  | nil => cases ha
  | same z a' b' c' h1 h2 => cases ha; exact Or.inl ⟨_, _, rfl, rfl, h1, h2⟩
  | diff p q a b c n h1 h2 h3 h4 h5 => exact Or.inr ⟨p, q, a, b, c, n, rfl, rfl, rfl, h1, h2, h3, h4, h5⟩
theorem JR.append {s : Sg} {N : List Int → List Int → Int → Prop} {a b c a' b' c' : List Int} (h : JR s N a b c) (h' : JR s N a' b' c') : JR s N (a ++ a') (b ++ b') (c ++ c') := by
  induction h with
  | nil => exact h'
  | same x a b c h1 _ ih => exact .same x _ _ _ h1 ih
  | diff p q a b c n h1 h2 h3 h4 _ ih => rw [List.append_assoc, List.append_assoc]; exact .diff p q _ _ _ n h1 h2 h3 h4 ih
theorem JR.split {s : Sg} {N : List Int → List Int → Int → Prop} : ∀ (len : Nat) (p : List Int) (k : Nat) (q a b c : List Int), p.length = len → Fo s 12 k p → Fo s 12 k q → JR s N (p ++ a) (q ++ b) c → ∃ c1 c2, c = c1 ++ c2 ∧ JR s N p q c1 ∧ JR s N a b c2 := by
  intro len
  induction len using Nat.strongRecOn with
  | ind len ih =>
    intro p k q a b c hl hp hq h
    cases p with
    | nil =>
      have := hp.of_nil
      subst this
      have := hq.zero
      subst this
      exact ⟨[], c, rfl, .nil, h⟩
    | cons x p =>
      obtain ⟨k', rfl, hx⟩ := hp.cons_inv
      rcases h.cons_inv with ⟨b', c', e1, rfl, hx0, h3⟩ | ⟨p', q', a', b', c', n, e1, e2, rfl, h3, h4, h5, h6, h7⟩
      · rcases hx with ⟨h1, _, _⟩ | ⟨_, _, y, rfl, r, hr, hf⟩
        · omega
        · cases q with
          | nil => have := hq.of_nil; omega
          | cons z q =>
            simp at e1
            obtain ⟨rfl, rfl⟩ := e1
            obtain ⟨k2, hk2, ⟨g1, _, _⟩ | ⟨_, _, _, _, r2, hr2, hg⟩⟩ := hq.cons_inv
            · omega
            · have e3 : r2 = r := by rw [hr2] at hr; omega
              have e4 : k2 = k' := by omega
              subst e3 e4
              obtain ⟨c1, c2, rfl, g1, g2⟩ := ih p.length (by simp at hl; omega) p _ q a b c' rfl hf hg h3
              exact ⟨_, c2, rfl, .same _ _ _ _ hx0 g1, g2⟩
      · obtain ⟨p0, p1, e3, hp0, hp1⟩ := hp.split
        obtain ⟨q0, q1, e4, hq0, hq1⟩ := hq.split
        rw [e4, List.append_assoc] at e2
        have e1' : (x :: p) ++ a = p' ++ a' := e1
        rw [e3, List.append_assoc] at e1'
        obtain ⟨rfl, rfl⟩ := cut1 hp0 h3 e1'
        obtain ⟨rfl, rfl⟩ := cut1 hq0 h4 e2
        have hlen := congrArg List.length e3
        rw [List.length_append] at hlen
        have := hp0.ne
        obtain ⟨c1, c2, rfl, g1, g2⟩ := ih p1.length (by omega) p1 _ q1 a b c' rfl hp1 hq1 h7
        rw [e3, e4]
        exact ⟨_, c2, rfl, .diff _ _ _ _ _ n h3 h4 h5 h6 g1, g2⟩
/-- what the join has in place of its names. -/
theorem JR.named {s : Sg} {N : List Int → List Int → Int → Prop} {a b c : List Int} (h : JR s N a b c) : ∀ n ∈ c, n < 0 → ∃ p q, IsT s 12 p ∧ IsT s 12 q ∧ N p q n := by
  induction h with
  | nil => intro n hn; cases hn
  | same x a b c h1 _ ih =>
    intro n hn hn0
    rcases List.mem_cons.1 hn with rfl | hn
    · omega
    · exact ih n hn hn0
  | diff p q a b c n h1 h2 _ h4 _ ih =>
    intro y hn hn0
    rcases List.mem_cons.1 hn with rfl | hn
    · exact ⟨p, q, h1, h2, h4⟩
    · exact ih y hn hn0
theorem JR.fo {s : Sg} {N : List Int → List Int → Int → Prop} {m : Int} (hN : ∀ p q n, N p q n → -m ≤ n ∧ n < 0) {a b c : List Int} (h : JR s N a b c) : ∀ (k : Nat), Fo s 12 k a → Fo s m k c := by
  induction h with
  | nil => intro k h; have := h.of_nil; subst this; exact Fo.nil _ _
  | same x a b c h1 _ ih =>
    intro k h
    obtain ⟨k', rfl, ⟨g, _, _⟩ | ⟨g1, g2, y, rfl, r, hr, g3⟩⟩ := h.cons_inv
    · omega
    · exact Fo.cons_app (by omega) hr (ih _ g3)
  | diff p q a b c n h1 h2 _ h4 _ ih =>
    intro k h
    obtain ⟨g1, g2⟩ := hN p q n h4
    cases k with
    | zero => exact absurd (List.append_eq_nil_iff.1 h.zero).1 h1.nonempty
    | succ k =>
      obtain ⟨p', r, e, hp', hr⟩ := h.split
      obtain ⟨rfl, rfl⟩ := cut1 h1 hp' e
      exact Fo.cons_var g2 g1 (ih _ hr)
theorem Inst.mono {s : Sg} {q q' : Int} (h : q ≤ q') {a b : List Int} (k : Inst s q a b) : Inst s q' a b := by
  obtain ⟨σ, h1, h2⟩ := k
  exact ⟨σ, fun n hn hn0 => (h1 n hn hn0).mono h, h2⟩
theorem Inst.down {s : Sg} {q : Int} (hq : 12 ≤ q) {a b : List Int} (ha : IsT s 12 a) (hb : IsT s 12 b) (k : Inst s q a b) : Inst s 12 a b :=
  (inst_iff ha hb).1 ((inst_iff (ha.mono hq) (hb.mono hq)).2 k)
theorem canonL_sub (t : List Int) : canonL t = subL (fun n => [numV (varsF [] t) n]) t := by
  have : ∀ (vs u : List Int), u.map (numV vs) = subL (fun n => [numV vs n]) u := by
    intro vs u
    induction u with
    | nil => rfl
    | cons n u ih =>
      by_cases h : n < 0
      · rw [subL_cons_var _ h, ← ih]; rfl
      · rw [subL_cons_app _ (by omega), ← ih, List.map_cons]
        unfold numV
        rw [if_neg h]
  exact this _ _
theorem canonL_T {s : Sg} {q : Int} {t : List Int} (h : IsT s q t) (hv : (varsF [] t).length ≤ 12) : IsT s 12 (canonL t) := by
  rw [canonL_sub]
  refine h.sub fun n hn hn0 => ?_
  have hm : n ∈ varsF [] t := (varsF_mem t [] n).2 (Or.inr ⟨hn, hn0⟩)
  have := List.idxOf_lt_length_of_mem hm
  refine .var _ ?_ (numV_neg.2 hn0)
  unfold numV
  rw [if_pos hn0]; omega
end Go.Proofs.YtalodmochkodiaaGreat
