/-
  WHAT IT HOLDS: plain theory of unification, the steps: what the state of a solver says (UInv), that each step of the solver keeps it and comes nearer to the end, and what the end says (Mgu, or no unifier). No program in sight. Condition: the lists are terms.
-/
import Derived.Test.YtldgkidojepdlaaZRFindRanks28
namespace Go.Proofs.Ytldgkidojepdlaa

abbrev Pr := List Int × List Int
def BIG : Nat := 60 ^ 30
def ub (m : MM) : Nat := ((List.range 24).filter fun i : Nat => (m (-(i : Int) - 1)).isNone).length
def wt (m : MM) (L : List Pr) : Nat := (L.map fun p => (fw m p.1).length).sum
def meas (m : MM) (L : List Pr) : Nat := ub m * BIG + wt m L
theorem wt_append (m : MM) (L K : List Pr) : wt m (L ++ K) = wt m L + wt m K := by simp [wt]
theorem wt_one (m : MM) (p : Pr) : wt m [p] = (fw m p.1).length := by simp [wt]
theorem ub_upd {m : MM} {v : Int} {q : List Int} (hm : m v = none) (h1 : -24 ≤ v) (h2 : v < 0) : ub (updM m v q) < ub m := by
  refine filter_lt _ _ _ (fun i _ hi => ?_) ⟨(-v - 1).toNat, List.mem_range.2 (by omega), ?_, ?_⟩
  · by_cases e : -(i : Int) - 1 = v
    · rw [e, updM_same] at hi; simp at hi
    · rwa [updM_ne m q e] at hi
  · rw [show -(((-v - 1).toNat : Nat) : Int) - 1 = v by omega, updM_same]; rfl
  · rw [show -(((-v - 1).toNat : Nat) : Int) - 1 = v by omega, hm]; rfl
theorem wt_le {s : Sg} {m : MM} (h : MOK s m) : ∀ (L : List Pr), (∀ p ∈ L, p.1.length ≤ 60) → wt m L ≤ L.length * 60 ^ 26
  | [], _ => by simp [wt]
  | p :: L, hl => by
    have ih := wt_le h L fun x hx => hl x (by simp [hx])
    have := fw_len h (hl p (by simp))
    have e : wt m (p :: L) = (fw m p.1).length + wt m L := by simp [wt]
    rw [e, List.length_cons, Nat.succ_mul]
    omega

/-- a term, looked up. -/
structure Lk (s : Sg) (m : MM) (t t' : List Int) : Prop where
  fwe : fw m t' = fw m t
  sub : ∀ σ, Sol m σ → subL σ t' = subL σ t
  T : IsT s 24 t'
  len : t'.length ≤ 60
theorem Lk.refl {s : Sg} {m : MM} {t : List Int} (h : IsT s 24 t) (hl : t.length ≤ 60) : Lk s m t t := ⟨rfl, fun _ _ => rfl, h, hl⟩
theorem Lk.next {s : Sg} {m : MM} (h : MOK s m) {t u : List Int} {v : Int} (k : Lk s m t [v]) (hv : m v = some u) : Lk s m t u := by
  obtain ⟨h1, h2, h3, h4⟩ := h.val v u hv
  refine ⟨?_, fun σ hσ => ?_, h3, h4⟩
  · rw [← k.fwe]; exact (sg_some h hv).symm
  · rw [← k.sub σ hσ, subL_one, if_pos h2]; exact (hσ v u hv).symm
theorem Lk.trans {s : Sg} {m : MM} {t u v : List Int} (h : Lk s m t u) (k : Lk s m u v) : Lk s m t v := ⟨k.fwe.trans h.fwe, fun σ hσ => (k.sub σ hσ).trans (h.sub σ hσ), k.T, k.len⟩
/-- a term's first number: a variable alone, or a symbol. -/
theorem IsT.head_var {s : Sg} {q : Int} {x : Int} {r : List Int} (h : IsT s q (x :: r)) (hx : x < 0) : r = [] ∧ -q ≤ x := by
  generalize ht : x :: r = t at h
  cases h with
  | var n h1 h2 => simp at ht; obtain ⟨rfl, rfl⟩ := ht; exact ⟨rfl, h1⟩
  | app c as _ _ _ => simp at ht; omega
theorem IsT.head_app {s : Sg} {q : Int} {x : Int} {r : List Int} (h : IsT s q (x :: r)) (hx : 0 ≤ x) : ∃ (c : Nat) (as : List (List Int)), x = c ∧ r = as.flatten ∧ c < s.length ∧ (as.length : Int) = arOf s c ∧ ∀ a ∈ as, IsT s q a := by
  generalize ht : x :: r = t at h
  cases h with
  | var n h1 h2 => simp at ht; omega
  | app c as h1 h2 h3 => simp at ht; exact ⟨c, as, ht.1, ht.2, h1, h2, h3⟩

structure UInv (s : Sg) (a b : List Int) (m : MM) (L : List Pr) : Prop where
  ta : IsT s 24 a
  la : a.length ≤ 60
  ok : MOK s m
  prs : ∀ p ∈ L, IsT s 24 p.1 ∧ IsT s 24 p.2 ∧ p.1.length ≤ 60 ∧ p.2.length ≤ 60
  eqv : ∀ σ, TS s σ → (subL σ a = subL σ b ↔ Sol m σ ∧ ∀ p ∈ L, subL σ p.1 = subL σ p.2)
  dep : ∀ (i : Nat) (p : Pr), L[i]? = some p → ∃ d, i ≤ 3 * d ∧ Dp s d (fw m p.1) (fw m a)
/-- binds that are most general. -/
def Mgu (s : Sg) (a b : List Int) (m : MM) : Prop := MOK s m ∧ ∀ σ, TS s σ → (subL σ a = subL σ b ↔ Sol m σ)
def NoU (s : Sg) (a b : List Int) : Prop := ∀ σ, TS s σ → subL σ a ≠ subL σ b
theorem MOK.empty (s : Sg) : MOK s noM := ⟨fun _ _ h => (by cases h), fun _ => 0, (fun _ _ h => by cases h), fun _ => Nat.zero_le _⟩
theorem UInv.start {s : Sg} {a b : List Int} (ha : IsT s 24 a) (hb : IsT s 24 b) (la : a.length ≤ 60) (lb : b.length ≤ 60) : UInv s a b noM [(a, b)] := by
  refine ⟨ha, la, MOK.empty s, by simpa using ⟨ha, hb, la, lb⟩, fun σ _ => by simp [Sol, noM], fun i p h => ?_⟩
  cases i with
  | zero => simp at h; subst h; exact ⟨0, by omega, .here _⟩
  | succ i => simp at h
theorem UInv.done {s : Sg} {a b : List Int} {m : MM} (h : UInv s a b m []) : Mgu s a b m := ⟨h.ok, fun σ hσ => by simpa using h.eqv σ hσ⟩
theorem UInv.len {s : Sg} {a b : List Int} {m : MM} {L : List Pr} (h : UInv s a b m L) : L.length ≤ 4681 := by
  cases hL : L.length with
  | zero => omega
  | succ n =>
    have hn : n < L.length := by omega
    obtain ⟨d, h1, h2⟩ := h.dep n L[n] (by simp [hn])
    have := h2.le (fw_ht h.ok h.ta h.la)
    omega
theorem UInv.wt_lt {s : Sg} {a b : List Int} {m : MM} {L : List Pr} (h : UInv s a b m L) : wt m L < BIG := by
  have h1 := wt_le h.ok L fun p hp => (h.prs p hp).2.2.1
  have h2 := h.len
  have h3 : L.length * 60 ^ 26 ≤ 4681 * 60 ^ 26 := Nat.mul_le_mul_right _ h2
  unfold BIG
  have h4 : (4681 : Nat) * 60 ^ 26 < 60 ^ 30 := by decide
  omega
/-- the pair on top, looked up. -/
theorem UInv.top {s : Sg} {a b : List Int} {m : MM} {L : List Pr} {x y p q : List Int} (h : UInv s a b m (L ++ [(x, y)])) (hp : Lk s m x p) (hq : Lk s m y q) (σ : Int → List Int) (hσ : TS s σ) :
    subL σ a = subL σ b ↔ Sol m σ ∧ (∀ r ∈ L, subL σ r.1 = subL σ r.2) ∧ subL σ p = subL σ q := by
  rw [h.eqv σ hσ]
  constructor
  · rintro ⟨h1, h2⟩
    exact ⟨h1, fun r hr => h2 r (by simp [hr]), by rw [hp.sub σ h1, hq.sub σ h1]; exact h2 (x, y) (by simp)⟩
  · rintro ⟨h1, h2, h3⟩
    refine ⟨h1, fun r hr => ?_⟩
    rcases List.mem_append.1 hr with hr | hr
    · exact h2 r hr
    · simp at hr; subst hr
      rw [hp.sub σ h1, hq.sub σ h1] at h3; exact h3
theorem UInv.rest {s : Sg} {a b : List Int} {m : MM} {L : List Pr} {x : Pr} (h : UInv s a b m (L ++ [x])) : (∀ p ∈ L, IsT s 24 p.1 ∧ IsT s 24 p.2 ∧ p.1.length ≤ 60 ∧ p.2.length ≤ 60) ∧ (∀ (i : Nat) (p : Pr), L[i]? = some p → ∃ d, i ≤ 3 * d ∧ Dp s d (fw m p.1) (fw m a)) :=
  ⟨fun p hp => h.prs p (by simp [hp]), fun i p hi => h.dep i p (by
    rw [List.getElem?_append_left]
    · exact hi
    · exact (List.getElem?_eq_some_iff.1 hi).1)⟩
/-- both are one variable. -/
theorem UInv.drop {s : Sg} {a b : List Int} {m : MM} {L : List Pr} {x y p : List Int} (h : UInv s a b m (L ++ [(x, y)])) (hp : Lk s m x p) (hq : Lk s m y p) : UInv s a b m L ∧ meas m L < meas m (L ++ [(x, y)]) := by
  refine ⟨⟨h.ta, h.la, h.ok, h.rest.1, fun σ hσ => ?_, h.rest.2⟩, ?_⟩
  · rw [h.top hp hq σ hσ]; simp
  · have : 0 < (fw m x).length := (fw_T h.ok (h.prs (x, y) (by simp)).1).ne
    unfold meas
    rw [wt_append, wt_one]
    show _ < _ + (_ + (fw m x).length)
    omega
/-- a variable that comes in the other part: no unifier. -/
theorem UInv.occurs {s : Sg} {a b : List Int} {m : MM} {L : List Pr} {x y q : List Int} {v : Int} (h : UInv s a b m (L ++ [(x, y)])) (hor : (Lk s m x [v] ∧ Lk s m y q) ∨ (Lk s m y [v] ∧ Lk s m x q)) (hv : v < 0) (hm : m v = none)
    (hqv : ∀ w, w < 0 → q.head? = some w → w ≠ v ∧ m w = none) (H : Reach m q v) : NoU s a b := by
  intro σ hσ e
  have hq : IsT s 24 q := by rcases hor with h | h <;> exact h.2.T
  have key : Sol m σ ∧ σ v = subL σ q := by
    rcases hor with ⟨h1, h2⟩ | ⟨h1, h2⟩
    · have := (h.top h1 h2 σ hσ).1 e
      exact ⟨this.1, by have := this.2.2; rwa [subL_one, if_pos hv] at this⟩
    · have := (h.top h2 h1 σ hσ).1 e
      exact ⟨this.1, by have := this.2.2; rw [subL_one, if_pos hv] at this; exact this.symm⟩
  cases q with
  | nil => exact absurd rfl hq.nonempty
  | cons c q =>
    by_cases hc : c < 0
    · obtain ⟨h1, h2⟩ := hqv c hc rfl
      obtain ⟨hr, _⟩ := hq.head_var hc
      subst hr
      cases H with
      | here _ _ g1 g2 => simp at g1; exact h1 g1.symm
      | step _ _ n p g1 g2 g3 g4 => simp at g1; subst g1; rw [h2] at g3; cases g3
    · exact occurs_no h.ok hm (by omega) hq H hσ key.1 key.2
/-- a variable becomes the other part. -/
theorem UInv.bind {s : Sg} {a b : List Int} {m : MM} {L : List Pr} {x y q : List Int} {v : Int} (h : UInv s a b m (L ++ [(x, y)])) (hor : (Lk s m x [v] ∧ Lk s m y q) ∨ (Lk s m y [v] ∧ Lk s m x q)) (hv : v < 0) (hm : m v = none)
    (H : ¬ Reach m q v) : UInv s a b (updM m v q) L ∧ meas (updM m v q) L < meas m (L ++ [(x, y)]) := by
  have hq : Lk s m x q ∨ Lk s m y q := by rcases hor with h | h <;> simp [h.2]
  have hqT : IsT s 24 q ∧ q.length ≤ 60 := by rcases hq with h | h <;> exact ⟨h.T, h.len⟩
  have hv24 : -24 ≤ v := by
    have : IsT s 24 [v] := by rcases hor with h | h <;> exact h.1.T
    exact this.vars v (by simp) hv
  have hok := h.ok.bind hv24 hv hqT.1 hqT.2 H
  have hsol : Sol m (sg (updM m v q)) := ((sol_upd hm _).1 (sg_sol hok)).1
  have hI : UInv s a b (updM m v q) L := by
    refine ⟨h.ta, h.la, hok, h.rest.1, fun σ hσ => ?_, fun i p hi => ?_⟩
    · rw [sol_upd hm]
      rcases hor with ⟨h1, h2⟩ | ⟨h1, h2⟩
      · rw [h.top h1 h2 σ hσ, subL_one, if_pos hv]
        constructor
        · rintro ⟨a, b, c⟩; exact ⟨⟨a, c⟩, b⟩
        · rintro ⟨⟨a, c⟩, b⟩; exact ⟨a, b, c⟩
      · rw [h.top h2 h1 σ hσ, subL_one, if_pos hv]
        constructor
        · rintro ⟨a, b, c⟩; exact ⟨⟨a, c.symm⟩, b⟩
        · rintro ⟨⟨a, c⟩, b⟩; exact ⟨a, b, c.symm⟩
    · obtain ⟨d, h1, h2⟩ := h.rest.2 i p hi
      refine ⟨d, h1, ?_⟩
      rw [fw_upd h.ok hok hsol, fw_upd h.ok hok hsol]
      exact h2.sub fun w h1 h2 => sg_T hok h1 h2
  refine ⟨hI, ?_⟩
  have h1 := ub_upd (q := q) hm hv24 hv
  have h2 := hI.wt_lt
  have h3 : (ub (updM m v q) + 1) * BIG ≤ ub m * BIG := Nat.mul_le_mul_right _ h1
  rw [Nat.add_mul, Nat.one_mul] at h3
  unfold meas
  omega
/-- two symbols: no unifier. -/
theorem UInv.clash {s : Sg} {a b : List Int} {m : MM} {L : List Pr} {x y p q : List Int} {c c' : Int} (h : UInv s a b m (L ++ [(x, y)])) (hp : Lk s m x (c :: p)) (hq : Lk s m y (c' :: q)) (h1 : 0 ≤ c) (h2 : 0 ≤ c') (hne : c ≠ c') : NoU s a b := by
  intro σ hσ e
  have := ((h.top hp hq σ hσ).1 e).2.2
  rw [subL_cons_app _ h1, subL_cons_app _ h2] at this
  exact hne (List.cons.inj this).1
theorem zip_all {α β : Type} {P : α → Prop} {Q : β → Prop} : ∀ {as : List α} {bs : List β}, (∀ a ∈ as, P a) → (∀ b ∈ bs, Q b) → ∀ r ∈ as.zip bs, P r.1 ∧ Q r.2 := by
  intro as bs h1 h2 r hr
  obtain ⟨a, b⟩ := r
  exact ⟨h1 a (List.of_mem_zip hr).1, h2 b (List.of_mem_zip hr).2⟩
theorem map_zip_eq {α β : Type} (f g : α → β) : ∀ (as bs : List α), as.length = bs.length → ((∀ r ∈ as.zip bs, f r.1 = g r.2) ↔ as.map f = bs.map g)
  | [], [], _ => by simp
  | a :: as, b :: bs, h => by
    have := map_zip_eq f g as bs (by simpa using h)
    simp only [List.zip_cons_cons, List.mem_cons, List.map_cons, List.cons.injEq]
    rw [← this]
    constructor
    · intro h; exact ⟨h (a, b) (Or.inl rfl), fun r hr => h r (Or.inr hr)⟩
    · rintro ⟨h1, h2⟩ r (rfl | hr)
      · exact h1
      · exact h2 r hr
theorem wt_zip {m : MM} : ∀ (as bs : List (List Int)), as.length = bs.length → wt m (as.zip bs) = (fw m as.flatten).length
  | [], [], _ => by rw [show (([] : List (List Int)).flatten) = [] from rfl]; unfold fw; rw [full_nil]; rfl
  | a :: as, b :: bs, h => by
    have := wt_zip (m := m) as bs (by simpa using h)
    rw [List.zip_cons_cons, List.flatten_cons, fw_append, List.length_append, ← this]
    simp [wt]
theorem flat_le {a : List Int} : ∀ {as : List (List Int)}, a ∈ as → a.length ≤ as.flatten.length
  | [], h => by cases h
  | b :: bs, h => by
    rw [List.flatten_cons, List.length_append]
    rcases List.mem_cons.1 h with rfl | h
    · omega
    · have := flat_le h; omega
/-- two parts with one symbol: their arguments, two by two. -/
theorem UInv.args {s : Sg} (hsg : signB s = true) {a b : List Int} {m : MM} {L : List Pr} {x y : List Int} {c : Nat} {as bs : List (List Int)} (h : UInv s a b m (L ++ [(x, y)])) (hp : Lk s m x ((c : Int) :: as.flatten)) (hq : Lk s m y ((c : Int) :: bs.flatten))
    (ha : (as.length : Int) = arOf s c) (hb : (bs.length : Int) = arOf s c) (h1 : ∀ a ∈ as, IsT s 24 a) (h2 : ∀ b ∈ bs, IsT s 24 b) : UInv s a b m (L ++ as.zip bs) ∧ meas m (L ++ as.zip bs) < meas m (L ++ [(x, y)]) := by
  have hl : as.length = bs.length := by omega
  refine ⟨⟨h.ta, h.la, h.ok, fun p hp' => ?_, fun σ hσ => ?_, fun i p hi => ?_⟩, ?_⟩
  · rcases List.mem_append.1 hp' with hp' | hp'
    · exact h.rest.1 p hp'
    · have g := zip_all h1 h2 p hp'
      have g2 := zip_all (P := fun u : List Int => u.length ≤ as.flatten.length) (Q := fun u : List Int => u.length ≤ bs.flatten.length) (fun _ h => flat_le h) (fun _ h => flat_le h) p hp'
      have g3 := hp.len
      have g4 := hq.len
      simp at g3 g4
      simp at g2
      exact ⟨g.1, g.2, by omega, by omega⟩
  · rw [h.top hp hq σ hσ, subL_node, subL_node]
    obtain ⟨w, hw⟩ := hσ
    have e : (((c : Int) :: (as.map (subL σ)).flatten) = ((c : Int) :: (bs.map (subL σ)).flatten)) ↔ ∀ r ∈ as.zip bs, subL σ r.1 = subL σ r.2 := by
      rw [map_zip_eq _ _ _ _ hl]
      constructor
      · intro e
        refine app_unique (s := s) (m := w) (fun z hz => ?_) (fun z hz => ?_) (by simpa using hl) e
        · obtain ⟨u, hu, rfl⟩ := List.mem_map.1 hz
          exact subL_T hw (h1 u hu)
        · obtain ⟨u, hu, rfl⟩ := List.mem_map.1 hz
          exact subL_T hw (h2 u hu)
      · intro e; rw [e]
    rw [e]
    constructor
    · rintro ⟨u, v, w⟩
      refine ⟨u, fun r hr => ?_⟩
      rcases List.mem_append.1 hr with hr | hr
      · exact v r hr
      · exact w r hr
    · rintro ⟨u, v⟩
      exact ⟨u, fun r hr => v r (by simp [hr]), fun r hr => v r (by simp [hr])⟩
  · by_cases hiL : i < L.length
    · rw [List.getElem?_append_left hiL] at hi
      exact h.rest.2 i p hi
    · rw [List.getElem?_append_right (by omega)] at hi
      obtain ⟨d, g1, g2⟩ := h.dep L.length (x, y) (by simp)
      have hlt : i - L.length < as.length := by
        have := (List.getElem?_eq_some_iff.1 hi).1
        simp at this; omega
      have har := signB_ar' hsg c
      refine ⟨d + 1, by omega, ?_⟩
      have hmem : p.1 ∈ as := (List.of_mem_zip (by exact List.mem_of_getElem? hi : (p.1, p.2) ∈ as.zip bs)).1
      have e : fw m x = (c : Int) :: (as.map (subL (sg m))).flatten := by rw [← hp.fwe, fw_sub h.ok, subL_node]
      rw [fw_sub h.ok p.1]
      refine Dp.arg g2 e (by simpa using ha) (fun z hz => ?_) (List.mem_map.2 ⟨p.1, hmem, rfl⟩)
      obtain ⟨u, hu, rfl⟩ := List.mem_map.1 hz
      exact subL_T (fun v h1 h2 => sg_T h.ok h1 h2) (h1 u hu)
  · unfold meas
    rw [wt_append, wt_append, wt_one, wt_zip as bs hl]
    have e : fw m x = (c : Int) :: fw m as.flatten := by rw [← hp.fwe, fw_app _ (by omega)]
    show _ < _ + (_ + (fw m x).length)
    rw [e, List.length_cons]
    omega

/-! ### what most general binds are good for -/
theorem Mgu.sol {s : Sg} {a b : List Int} {m : MM} (h : Mgu s a b m) : subL (sg m) a = subL (sg m) b := (h.2 _ (sg_TS h.1)).2 (sg_sol h.1)
theorem Mgu.not_no {s : Sg} {a b : List Int} {m : MM} (h : Mgu s a b m) (k : NoU s a b) : False := k _ (sg_TS h.1) h.sol
theorem Mgu.gen {s : Sg} {a b : List Int} {m : MM} (h : Mgu s a b m) {σ : Int → List Int} (hσ : TS s σ) (e : subL σ a = subL σ b) (t : List Int) : subL σ (fw m t) = subL σ t := sol_fw ((h.2 σ hσ).1 e) t
/-- what two most general binds make of a term is alike. -/
theorem Mgu.canon {s : Sg} {a b : List Int} {m m' : MM} (h : Mgu s a b m) (h' : Mgu s a b m') {t : List Int} (ht : IsT s 24 t) : canonL (fw m t) = canonL (fw m' t) := by
  have key : ∀ {m m' : MM}, Mgu s a b m → Mgu s a b m' → Inst s 24 (fw m t) (fw m' t) := by
    intro m m' h h'
    refine ⟨sg m', fun n hn hn0 => sg_T h'.1 ((fw_T h.1 ht).vars n hn hn0) hn0, ?_⟩
    rw [h.gen (sg_TS h'.1) h'.sol, fw_sub h'.1]
  exact inst_alike (key h h') (key h' h)
end Go.Proofs.Ytldgkidojepdlaa
